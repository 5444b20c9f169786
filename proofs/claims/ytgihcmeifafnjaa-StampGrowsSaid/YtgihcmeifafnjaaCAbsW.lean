/- The abstract machine: results that are rows, nil or not; states with other identities. -/
import Derived.Test.YtgihcmeifafnjaaCAbsV
set_option linter.unusedVariables false
set_option linter.unusedSimpArgs false
namespace Go.Abs
open Go

/-- A nil result is a row of no elements. -/
inductive OwnLe : List RD → List RD → Prop
  | nil : OwnLe [] []
  | same (x : RD) (l r : List RD) (h : OwnLe l r) : OwnLe (x :: l) (x :: r)
  | z (sz : Nat) (l r : List RD) (h : OwnLe l r) : OwnLe (.d .nils :: l) (.own sz [] :: r)
theorem OwnLe.refl : ∀ l : List RD, OwnLe l l
  | [] => .nil
  | x :: l => .same x l l (OwnLe.refl l)
theorem OwnLe.len {l r : List RD} (h : OwnLe l r) : l.length = r.length := by
  induction h with
  | nil => rfl
  | same x l r h ih => simp [ih]
  | z sz l r h ih => simp [ih]

/-- The places that a nil result takes. -/
def ownGi : List RD → List RD → List (Option GI) → List (Option GI)
  | .d .nils :: l, .own sz [] :: r, _ :: g => some ⟨0, 0, sz, 0, false⟩ :: ownGi l r g
  | _ :: l, _ :: r, x :: g => x :: ownGi l r g
  | _, _, g => g

theorem ownGi_get {l r : List RD} (h : OwnLe l r) : ∀ {g : List (Option GI)}, g.length = l.length → (ownGi l r g).length = g.length ∧ ∀ (i : Nat) (gi' : Option GI), (ownGi l r g)[i]? = some gi' →
    (g[i]? = some gi' ∧ l[i]? = r[i]?) ∨ (∃ sz : Nat, gi' = some ⟨0, 0, sz, 0, false⟩ ∧ l[i]? = some (.d .nils) ∧ r[i]? = some (.own sz [])) := by
  induction h with
  | nil => intro g hg; simp at hg; subst hg; simp [ownGi]
  | same x l r h ih =>
    intro g hg
    cases g with
    | nil => simp at hg
    | cons y g =>
      have e : ownGi (x :: l) (x :: r) (y :: g) = y :: ownGi l r g := by
        cases x with
        | d d => rw [ownGi]; intro sz h1 h2; cases h2
        | own sz es => rw [ownGi]; intro _ h; cases h
        | nbox cs => rw [ownGi]; intro _ h; cases h
        | omap kvs => rw [ownGi]; intro _ h; cases h
      rw [e]
      obtain ⟨i1, i2⟩ := ih (g := g) (by simpa using hg)
      refine ⟨by simp [i1], fun i gi' hi => ?_⟩
      cases i with
      | zero => simp at hi; subst hi; exact .inl ⟨by simp, by simp⟩
      | succ i => simpa using i2 i gi' (by simpa using hi)
  | z sz l r h ih =>
    intro g hg
    cases g with
    | nil => simp at hg
    | cons y g =>
      have e : ownGi (.d .nils :: l) (.own sz [] :: r) (y :: g) = some ⟨0, 0, sz, 0, false⟩ :: ownGi l r g := rfl
      rw [e]
      obtain ⟨i1, i2⟩ := ih (g := g) (by simpa using hg)
      refine ⟨by simp [i1], fun i gi' hi => ?_⟩
      cases i with
      | zero => simp at hi; subst hi; exact .inr ⟨sz, rfl, by simp, by simp⟩
      | succ i => simpa using i2 i gi' (by simpa using hi)

theorem RetOk.own {A : Nat → Prop} {w w' : World} {io : List Nat} {r r' : Res} {v : Value} (h : RetOk A w io r v w') (hl : OwnLe r.ret r'.ret) (hio : r'.io = r.io) : RetOk A w io r' v w' := by
  obtain ⟨h1, h2, h3, h4, h5, h6, gis, vs, k1, k2, k3, k4, k5, k6, k7, k8⟩ := h
  obtain ⟨q1, q2⟩ := ownGi_get hl k3
  have old : ∀ (i : Nat) (gi : GI), (ownGi r.ret r'.ret gis)[i]? = some (some gi) → gi.live = true → gis[i]? = some (some gi) := by
    intro i gi hi hlv
    rcases q2 i _ hi with ⟨h, _⟩ | ⟨sz, h, _⟩
    · exact h
    · cases h; cases hlv
  have hmem : ∀ (gi : GI), some gi ∈ ownGi r.ret r'.ret gis → gi.live = true → some gi ∈ gis := by
    intro gi hm hlv
    obtain ⟨i, hi⟩ := List.getElem?_of_mem hm
    exact List.mem_of_getElem? (old i gi hi hlv)
  have hA : ∀ b, RetA A w w' gis b → RetA A w w' (ownGi r.ret r'.ret gis) b := fun b hb => ⟨hb.1, hb.2.1, fun (gi : GI) hm hlv => hb.2.2 gi (hmem gi hm hlv) hlv⟩
  refine ⟨h1, h2, h3, h4, h5, h6, ownGi r.ret r'.ret gis, vs, k1, k2.trans hl.len, q1.trans (k3.trans hl.len), fun i rd gi u x1 x2 x3 => ?_, fun gi hm hlv => k5 gi (hmem gi hm hlv) hlv, fun i j gi gj hij x1 x2 y1 y2 => k6 i j gi gj hij (old i gi x1 y1) (old j gj x2 y2) y1 y2, by rw [hio]; exact k7, fun i b cs x1 x2 => ?_⟩
  · rcases q2 i gi x2 with ⟨hg, hr⟩ | ⟨sz, hg, hr0, hr1⟩
    · rw [← hr] at x1
      have := k4 i rd gi u x1 hg x3
      cases rd with
      | d x => cases gi with
        | none => exact Tv.world this fun b hb => ⟨hA b hb, rfl⟩
        | some gi => exact this.elim
      | own sz es => cases gi with
        | none => exact this.elim
        | some gi =>
          obtain ⟨⟨a0, a1, a2, a3, a4, a5⟩, hh⟩ := this
          refine ⟨⟨a0, a1, a2, a3, a4, fun hlv => ?_⟩, hh⟩
          obtain ⟨b0, c, T, b1, b2, b3⟩ := a5 hlv
          exact ⟨fun h => (by cases h), c, T, b1, b2, fun i j e d u x y z => (b3 i j e d u x y z).mono fun b hb => ⟨hA b hb, rfl⟩⟩
      | nbox cs => cases gi with
        | none => exact this.elim
        | some gi =>
          obtain ⟨⟨a0, c, T, b1, b2, b3⟩, hh⟩ := this
          exact ⟨⟨a0, c, T, b1, b2, fun i d u x y => (b3 i d u x y).mono ⟨fun _ _ h => h, fun b hb => ⟨hA b hb, rfl⟩⟩⟩, hh⟩
      | omap kvs => cases gi with
        | none => exact this.elim
        | some gi =>
          obtain ⟨⟨a0, a1, es, b1, b2, b3⟩, hh⟩ := this
          exact ⟨⟨a0, fun h => (by cases h), es, b1, b2, b3.mono fun b hb => ⟨hA b hb, rfl⟩⟩, hh⟩
    · rw [hr1] at x1; cases x1; subst hg
      have hg2 : ∃ gi0, gis[i]? = some gi0 := by
        have hlt : i < (ownGi r.ret r'.ret gis).length := by
          rcases Nat.lt_or_ge i (ownGi r.ret r'.ret gis).length with h | h
          · exact h
          · rw [List.getElem?_eq_none h] at x2; cases x2
        exact ⟨_, List.getElem?_eq_getElem (by omega)⟩
      obtain ⟨gi0, hg0⟩ := hg2
      have := k4 i _ gi0 u hr0 hg0 x3
      cases gi0 with
      | some gi0 => exact this.elim
      | none =>
        have hu : u = .slice none 0 0 := by
          cases Tv.cell this rfl with
          | c _ _ hr => cases hr with | nils => rfl
        subst hu
        exact ⟨⟨rfl, rfl, by simp, by simp, fun _ => ⟨rfl, rfl⟩, fun h => by cases h⟩, none, 0, rfl, by simp, by simp, .inl rfl⟩
  · rw [hio] at x2
    obtain ⟨c, T, b1, b2, b3⟩ := k8 i b cs x1 x2
    exact ⟨c, T, b1, b2, fun i d u x y => (b3 i d u x y).mono ⟨fun _ _ h => h, fun b hb => ⟨hA b hb, rfl⟩⟩⟩

/-- What a body is asked: a result may be nil where a row of no elements is meant. -/
def ownP (post : Res → Prop) : Res → Prop := fun r => ∃ r', post r' ∧ OwnLe r.ret r'.ret ∧ r'.io = r.io

theorem ok_of_body_own {P : Program} {f : FuncId} {c : Con} {fn : Func} {code : Code} (n np : Nat) (hf : P.funcs[f]? = some fn) (hb : fn.body = some code) (hname : (fn.name == "runtime.NumGoroutine") = false) (hn : fn.ntmps = n)
    (hargs : ∀ a, c.pre a → (c.args a).length = np ∧ (c.args a).map AD.isIo = c.kinds) (hnp : np ≤ n) (clean : c.clean = true → ∀ a r, c.pre a → c.post a r → r.ret.all plainRD = true)
    (h : ∀ a, c.pre a → AW P n np code (RetQ P np c.kinds fn.results.toList (ownP (c.post a))) ⟨envOf (initE 0 (c.args a)), memOf (initMm 0 (c.args a)), (c.args a).length⟩) : CallOk P f c := by
  have k := ok_of_body' (c := { c with post := fun a => ownP (c.post a) }) n np hf hb hname hn hargs hnp (fun hc a r hp hr => by
    obtain ⟨r', h1, h2, h3⟩ := hr
    have := clean hc a r' hp h1
    clear h1 h3
    generalize r.ret = l at h2 ⊢
    generalize r'.ret = l' at h2 this
    induction h2 with
    | nil => rfl
    | same x l r h ih => simp only [List.all_cons, Bool.and_eq_true] at this ⊢; exact ⟨this.1, ih this.2⟩
    | z sz l r h ih => simp only [List.all_cons, Bool.and_eq_true] at this ⊢; exact ⟨rfl, ih this.2⟩) h
  refine ⟨k.fn, clean, fun a hp w A io vs hA hn hio hlt => ?_⟩
  refine (k.calls a hp w A io vs hA hn hio hlt).mono ?_
  rintro e w' ⟨v, r, he, ⟨r', h1, h2, h3⟩, h4⟩
  exact ⟨v, r', he, h1, h4.own h2 h3⟩

section rules
variable {P : Program} {n np : Nat} {Q : Exit → S → Prop}

/-- A nil slice is a row of no elements. -/
theorem aw_nil (t f sz : Nat) {c : Code} {el : List (Nat × D)} {ml : List (Nat × Ent)} {x : Nat} (ht : envOf el t = .nils) (hf : memOf ml f = none)
    (h : AW P n np c Q ⟨envOf ((t, .row f) :: el), memOf ((f, .row sz [] true) :: ml), x⟩) : AW P n np c Q ⟨envOf el, memOf ml, x⟩ := by
  refine aw_weak (weak_nil (s := ⟨envOf el, memOf ml, x⟩) t f sz ht hf) ?_
  have e1 : upd (envOf el) t (.row f) = envOf ((t, .row f) :: el) := rfl
  simp only [e1, upd_memOf]
  exact h

/-- Other identities: each new one by the old one that it was. -/
def rho : List (Nat × Nat) → Nat → Nat
  | [], j => j
  | (a, b) :: l, j => if j = a then b else rho l j

theorem weak_as {el el' : List (Nat × D)} {ml ml' : List (Nat × Ent)} {x y : Nat} (ρ : List (Nat × Nat))
    (he : ∀ p, p ∈ el' → reD (rho ρ) (memOf ml') p.2 = some (envOf el p.1))
    (hm : ∀ p, p ∈ ml' → reE (rho ρ) (memOf ml') p.2 = memOf ml (rho ρ p.1))
    (hs : ∀ p, p ∈ ml' → (reE (rho ρ) (memOf ml') p.2).isSome = true)
    (hn : ml'.all (fun p => decide (np ≤ p.1 → np ≤ rho ρ p.1)) = true)
    (hd : ((ml'.map fun p => rho ρ p.1).Nodup : Bool) = true)
    (hp : ((List.range np).all fun j => (memOf ml j).isNone || ((memOf ml' j).isSome && rho ρ j == j)) = true) : Weak n np ⟨envOf el, memOf ml, x⟩ ⟨envOf el', memOf ml', y⟩ := by
  refine weak_re (s := ⟨envOf el, memOf ml, x⟩) (rho ρ) el' ml' y he (fun p hp' => ⟨hm p hp', hs p hp', ?_⟩) (fun p q h1 h2 h3 => ?_) (fun j hj => ?_)
  · rw [List.all_eq_true] at hn
    exact of_decide_eq_true (hn p hp')
  · have hd' : (ml'.map fun p => rho ρ p.1).Nodup := by simpa using hd
    have key : ∀ {l : List (Nat × Ent)}, (l.map fun p => rho ρ p.1).Nodup → p ∈ l → q ∈ l → p = q := by
      intro l hl hp hq
      induction l with
      | nil => cases hp
      | cons a l ih =>
        simp only [List.map_cons, List.nodup_cons, List.mem_map, not_exists, not_and] at hl
        rcases List.mem_cons.1 hp with rfl | hp1 <;> rcases List.mem_cons.1 hq with rfl | hq1
        · rfl
        · exact absurd h3.symm (hl.1 q hq1)
        · exact absurd h3 (hl.1 p hp1)
        · exact ih hl.2 hp1 hq1
    rw [key hd' h1 h2]
  · rw [List.all_eq_true] at hp
    have := hp j (List.mem_range.2 hj)
    simp only [Bool.or_eq_true, Bool.and_eq_true, beq_iff_eq, Option.isNone_iff_eq_none] at this
    exact this
/-- A loop; a round's end: first what the state is, then what holds of it. -/
theorem aw_rounds {α : Type} {s : S} (I : α → S) (inv : α → Prop) (μ : α → Nat) (x0 : α) {c : Code} (h0 : inv x0) (hs : Weak n np s (I x0))
    (round : ∀ x, inv x → AW P n np c (thenQ (fun s' => ∃ x', Weak n np s' (I x') ∧ inv x' ∧ μ x' < μ x) Q) (I x)) : AW P n np (.loop c) Q s :=
  aw_loop I inv μ x0 h0 hs fun x hx => aw_mono (round x hx) fun e s' hq => by
    cases e with
    | normal => obtain ⟨x', h1, h2, h3⟩ := hq; exact ⟨x', h2, h3, h1⟩
    | _ => exact hq

/-- The same, one slot and one identity after another. -/
def heP (ρ : List (Nat × Nat)) (M' : Mem) (el : List (Nat × D)) : List (Nat × D) → Prop
  | [] => True
  | p :: l => reD (rho ρ) M' p.2 = some (envOf el p.1) ∧ heP ρ M' el l
def hmP (ρ : List (Nat × Nat)) (M' M : Mem) : List (Nat × Ent) → Prop
  | [] => True
  | p :: l => (reE (rho ρ) M' p.2 = M (rho ρ p.1) ∧ (M (rho ρ p.1)).isSome = true) ∧ hmP ρ M' M l
theorem heP_mem {ρ : List (Nat × Nat)} {M' : Mem} {el l : List (Nat × D)} (h : heP ρ M' el l) : ∀ p, p ∈ l → reD (rho ρ) M' p.2 = some (envOf el p.1) := by
  induction l with
  | nil => intro p hp; cases hp
  | cons a l ih =>
    intro p hp
    rcases List.mem_cons.1 hp with rfl | hp
    · exact h.1
    · exact ih h.2 p hp
theorem hmP_mem {ρ : List (Nat × Nat)} {M' M : Mem} {l : List (Nat × Ent)} (h : hmP ρ M' M l) : ∀ p, p ∈ l → reE (rho ρ) M' p.2 = M (rho ρ p.1) ∧ (M (rho ρ p.1)).isSome = true := by
  induction l with
  | nil => intro p hp; cases hp
  | cons a l ih =>
    intro p hp
    rcases List.mem_cons.1 hp with rfl | hp
    · exact h.1
    · exact ih h.2 p hp
theorem weak_in {el el' : List (Nat × D)} {ml ml' : List (Nat × Ent)} {x y : Nat} (ρ : List (Nat × Nat)) (he : heP ρ (memOf ml') el el') (hm : hmP ρ (memOf ml') (memOf ml) ml')
    (hn : ml'.all (fun p => decide (np ≤ p.1 → np ≤ rho ρ p.1)) = true) (hd : ((ml'.map fun p => rho ρ p.1).Nodup : Bool) = true)
    (hp : ((List.range np).all fun j => (memOf ml j).isNone || ((memOf ml' j).isSome && rho ρ j == j)) = true) : Weak n np ⟨envOf el, memOf ml, x⟩ ⟨envOf el', memOf ml', y⟩ :=
  weak_as ρ (heP_mem he) (fun p h => (hmP_mem hm p h).1) (fun p h => by rw [(hmP_mem hm p h).1]; exact (hmP_mem hm p h).2) hn hd hp
end rules

/-- A call of a method that turns the variable behind its receiver; whatever it hands back. -/
theorem call_ioR {K : Kt} {f : FuncId} {c : Con} {np fid id : Nat} {ds : List D} {M : Mem} {nx : D → Mem → Prop} (hk : K f = some c) (hs : c.srt = none) (hcl : c.clean = false) (a : c.α)
    (hnf : ds.all (nf np M) = true) (hid : ioIds c.kinds ds = [id]) (ha : argsF M c.kinds ds = some (c.args a)) (hp : c.pre a) (hf : ∀ j, M (fid + j) = none)
    (hn : ∀ r, c.post a r → nx (tupD (retD fid r.ret)) (retM fid (ioM M [id] r.io) r.ret)) : semCall K np f ds M fid nx := by
  unfold semCall
  rw [hk]
  simp only [hs, hcl, nfA_eq hnf, hid]
  exact ⟨by simp, a, ha, hp, fun r hr => ⟨fun j _ => hf j, hn r hr⟩⟩

/-- A call of a function that is handed no variable, whose results may bear what it is handed. -/
theorem call_uR {K : Kt} {f : FuncId} {c : Con} {np fid : Nat} {ds : List D} {M : Mem} {nx : D → Mem → Prop} (hk : K f = some c) (hs : c.srt = none) (hcl : c.clean = false) (a : c.α)
    (hnf : ds.all (nf np M) = true) (hid : ioIds c.kinds ds = []) (ha : argsF M c.kinds ds = some (c.args a)) (hp : c.pre a) (hf : ∀ j, M (fid + j) = none)
    (hn : ∀ r, c.post a r → nx (tupD (retD fid r.ret)) (retM fid M r.ret)) : semCall K np f ds M fid nx := by
  unfold semCall
  rw [hk]
  simp only [hs, hcl, nfA_eq hnf, hid]
  exact ⟨by simp, a, ha, hp, fun r hr => ⟨fun j _ => hf j, hn r hr⟩⟩

/-- A call of a function that turns nothing; whatever it hands back. -/
theorem call_clR {K : Kt} {f : FuncId} {c : Con} {np fid : Nat} {ds : List D} {M : Mem} {nx : D → Mem → Prop} (hk : K f = some c) (hs : c.srt = none) (hcl : c.clean = true) (a : c.α)
    (ha : argsV M ds = some (c.args a)) (hp : c.pre a) (hf : ∀ j, M (fid + j) = none)
    (hn : ∀ r, c.post a r → nx (tupD (retD fid r.ret)) (retM fid M r.ret)) : semCall K np f ds M fid nx := by
  unfold semCall
  rw [hk]
  simp only [hs, hcl, if_true]
  exact ⟨a, ha, hp, fun r hr => ⟨fun j _ => hf j, hn r hr⟩⟩

end Go.Abs
