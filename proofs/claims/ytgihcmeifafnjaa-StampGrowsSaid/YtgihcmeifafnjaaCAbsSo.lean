/- The abstract machine: sorts. -/
import Derived.Test.YtgihcmeifafnjaaCAbsJa
import Derived.Shelf.GgSortFunc.RowK
set_option linter.unusedVariables false
set_option linter.unusedSimpArgs false
namespace Go.Abs
open Go Go.Sort

def ltC {α : Type} (cf : α → α → Int) (x y : α) : Bool := decide (cf x y < 0)

/-- The worlds that a sort passes through. -/
def swW (w : World) (blk : Nat) (V : Array Value) (m : Nat) (os : Array Obj) : World := Sort.grow (putRow id (Sort.ahead w m) blk 0 V) os
def valV (ag : Bool) (l : List Value) : Value := if ag then .agg l.toArray else l.headD undef

structure SortOk (P : Program) (f : FuncId) (k : Nat) (ag : Bool) : Prop where
  fn : ∃ fn, P.funcs[f]? = some fn ∧ fn.body.isNone = false ∧ (fn.name == "runtime.NumGoroutine") = false
  nil : ∀ (p : Option Addr) (cap : Nat) (fv : Value) (w : World), Calls P f #[.slice p 0 cap, fv] w fun e w' => e = .returned (.tuple #[]) ∧ w' = w
  srt : ∀ (n : Nat) (X : Fin (n + 1) → List Value), (∀ i, (X i).length = k) → (∀ i v, v ∈ X i → v.oneCell' = true) → ∀ (cf : Fin (n + 1) → Fin (n + 1) → Int), SWO (ltC cf) → ∀ (g : Nat) (cb : Array Value) (blk cap : Nat) (w : World),
    (∀ args w, (callFunc g args).run P w = .ok (.enter g args) w) →
    (∀ (m : Nat) (os : Array Obj) (σ : Array (Fin (n + 1))), σ.size = n + 1 → ∀ i j, Calls P g (#[valV ag (X i), valV ag (X j)] ++ cb) (swW w blk (flatK X k σ) m os) fun e w' => e = .returned (.int .i64 (cf i j)) ∧ ∃ q os', w' = Sort.grow ((swW w blk (flatK X k σ) m os).drewN q) os') →
    Holds id w blk 0 (flatK X k (Array.ofFn id)) → blk < w.heap.size → n + 1 < 4611686018427387904 →
    Calls P f #[.slice (some ⟨blk, 0, none⟩) (n + 1) cap, .func (.func g) #[] cb] w fun e w' => e = .returned (.tuple #[]) ∧
      ∃ (σ : Array (Fin (n + 1))) (m : Nat) (os : Array Obj), σ.toList.Perm (List.finRange (n + 1)) ∧ (∀ i j, i < j → j < n + 1 → ltC cf σ[j]! σ[i]! = false) ∧ w' = swW w blk (flatK X k σ) m os

/-- More blocks. -/
theorem MemOk.grow {F : Fr} {g M w} (h : MemOk F g M w) (os : Array Obj) : MemOk F g M (grow w os) ∧ Le g (Ok F g M w) w g (Ok F g M (Sort.grow w os)) (Sort.grow w os) :=
  h.step (fun b => w.heap.size ≤ b) (fun _ _ h => h) h.dom (fun b hb _ => heap_grow_old w os hb) (fun b hb hw => by have := hb.1; omega) (fun b hw hlt => by have := h.size; omega) (by simp) rfl rfl rfl
    (fun _ id e he => .inl ⟨he, fun gi hg hx hlv hw => by have := (h.lo id e gi he hx hg hlv).1; omega⟩) (fun id e gi h1 _ h3 _ => .inl ⟨h1, h3⟩) h.inj

theorem heap_putRow {w : World} {blk m : Nat} {V c : Array Value} {T : TypeId} (hb : w.heap[blk]? = some (.cells c T (0, 0))) : (putRow id (Sort.ahead w m) blk 0 V).heap[blk]? = some (.cells (putCells id 0 V c) T (0, 0)) ∧ ∀ b, b ≠ blk → (putRow id (Sort.ahead w m) blk 0 V).heap[b]? = w.heap[b]? := by
  constructor
  · simp [putRow, mapBlock, Sort.ahead, Array.getElem?_modify, hb, onCells]
  · intro b hne
    simp [putRow, mapBlock, Sort.ahead, Array.getElem?_modify, Ne.symm hne]

theorem swW_heap {w : World} {blk m : Nat} {V : Array Value} {os : Array Obj} : (swW w blk V m os).heap = (putRow id (Sort.ahead w m) blk 0 V).heap ++ os := rfl

/-- The state at such a world. -/
theorem mid_ok {F : Fr} {g M w} (hM : MemOk F g M w) {id sz : Nat} {es : List (List D)} (hm : M id = some (.row sz es true)) {gi : GI} (hg : g id = some gi) (hlv : gi.live = true) {c : Array Value} {T : TypeId}
    (hb : w.heap[gi.blk]? = some (.cells c T (0, 0))) (es' : List (List D)) (hl : es'.length = es.length) (hsz : ∀ e, e ∈ es' → e.length = sz) (V : Array Value) (m : Nat) (os : Array Obj)
    (hr : ∀ (i j : Nat) e d u, es'[i]? = some e → e[j]? = some d → (putCells _root_.id 0 V c)[i * sz + j]? = some u → Rc (Ok F g M w) w d u) :
    MemOk F g (upd M id (some (.row sz es' true))) (swW w gi.blk V m os) ∧ Le g (Ok F g M w) w g (Ok F g (upd M id (some (.row sz es' true))) (swW w gi.blk V m os)) (swW w gi.blk V m os) := by
  obtain ⟨gi', hg', a0, a1, a2, a3, a4, a5⟩ := hM.ent id _ hm
  rw [hg] at hg'; cases hg'
  obtain ⟨_, c', T', b1, b2, b3⟩ := a5 hlv
  rw [hb] at b1; cases b1
  obtain ⟨p1, p2⟩ := heap_putRow (m := m) (V := V) hb
  obtain ⟨k1, k2⟩ := hM.modify (e' := .row sz es' true) hm rfl hg hlv (w' := putRow _root_.id (Sort.ahead w m) gi.blk 0 V) p2 (by simp [putRow, mapBlock, Sort.ahead]) rfl rfl rfl rfl
    (fun hL => ⟨a0, by rw [hl]; exact a1, hsz, by rw [hl]; exact a3, fun h => by rw [hlv] at h; simp at h, fun _ => ⟨fun h => by simp at h, _, T, p1, by simpa [putCells] using b2, fun i j e d u x y z => (hr i j e d u x y z).mono hL.A⟩⟩)
    (by show w.drawn ≤ w.drawn + m; omega)
  obtain ⟨k3, k4⟩ := k1.grow os
  exact ⟨k3, k2.trans k4⟩

theorem fz0_ext {M N : Mem} {i : Nat} (hi : M i = none) (h : ∀ j, j ≠ i → N j = M j) {b : Bool} {d d' : D} (hf : fz0 M b d = some d') : fz0 N b d = some d' := by
  have key : ∀ id, M id ≠ none → N id = M id := fun id hid => h id fun he => hid (he ▸ hi)
  unfold fz0 at hf ⊢
  split at hf <;> first
    | exact hf
    | (rename_i id; cases hm : M id with
        | none => rw [hm] at hf; cases hf
        | some e => rw [key id (by rw [hm]; simp), hm]; rw [hm] at hf; exact hf)
    | (rename_i id _ _; cases hm : M id with
        | none => rw [hm] at hf; cases hf
        | some e => rw [key id (by rw [hm]; simp), hm]; rw [hm] at hf; exact hf)
    | cases hf

theorem mapO_ext {α β : Type} {f f' : α → Option β} : ∀ {l : List α} {l' : List β}, (∀ x y, x ∈ l → f x = some y → f' x = some y) → mapO f l = some l' → mapO f' l = some l'
  | [], l', _, h => h
  | x :: l, l', hh, h => by
    simp only [mapO] at h ⊢
    split at h
    · rename_i y r h1 h2
      rw [hh x y List.mem_cons_self h1, mapO_ext (fun z w hz => hh z w (List.mem_cons_of_mem _ hz)) h2]
      exact h
    · cases h

theorem fz_ext {M N : Mem} {i : Nat} (hi : M i = none) (h : ∀ j, j ≠ i → N j = M j) {b : Bool} : ∀ (n : Nat) {d d' : D}, fz M b n d = some d' → fz N b n d = some d'
  | 0, d, d', hf => by unfold fz at hf ⊢; exact fz0_ext hi h hf
  | n + 1, d, d', hf => by
    cases d with
    | box id off =>
      simp only [fz] at hf ⊢
      cases hm : M id with
      | none => rw [hm] at hf; cases hf
      | some e =>
        rw [h id (fun he => by subst he; rw [hi] at hm; cases hm), hm]
        rw [hm] at hf
        cases e <;> try exact hf
        rename_i cs
        simp only at hf ⊢
        split at hf
        · split at hf
          · rename_i cs' hcs
            rw [if_pos (by assumption), mapO_ext (fun x y _ => fz_ext hi h n) hcs]
            exact hf
          · cases hf
        · cases hf
    | fn f x y =>
      simp only [fz] at hf ⊢
      split at hf
      · rename_i x' y' h1 h2
        rw [mapO_ext (fun x y _ => fz_ext hi h n) h1, mapO_ext (fun x y _ => fz_ext hi h n) h2]
        exact hf
      · cases hf
    | agg cs =>
      simp only [fz] at hf ⊢
      split at hf
      · rename_i x' h1
        rw [mapO_ext (fun x y _ => fz_ext hi h n) h1]
        exact hf
      · cases hf
    | row id => exact fz0_ext (d := .row id) hi h hf
    | vw id x y => exact fz0_ext (d := .vw id x y) hi h hf
    | elt id x y => exact fz0_ext (d := .elt id x y) hi h hf
    | v x => exact hf
    | nils => exact hf
    | sl x y => exact hf
    | rp x y z t => exact hf
    | _ => simp [fz, fz0] at hf

theorem Rc.one_cell {A : Nat → Prop} {w : World} {d : D} {u : Value} (h : Rc A w d u) : isCell d = true := by cases h <;> rfl

theorem flatK_get {α : Type} [Inhabited α] (X : α → List Value) (k : Nat) (σ : Array α) {i j : Nat} (hk : ∀ a, (X a).length = k) (hi : i < σ.size) (hj : j < k) : (flatK X k σ)[i * k + j]? = (X σ[i])[j]? := by
  have hlt : i * k + j < σ.size * k := by
    have : (i + 1) * k ≤ σ.size * k := Nat.mul_le_mul_right _ hi
    rw [Nat.add_mul, Nat.one_mul] at this
    omega
  have h1 : (i * k + j) / k = i := by rw [Nat.mul_comm, Nat.mul_add_div (by omega), Nat.div_eq_of_lt hj]; omega
  have h2 : (i * k + j) % k = j := by rw [Nat.mul_comm, Nat.mul_add_mod, Nat.mod_eq_of_lt hj]
  have hs : i * k + j < (flatK X k σ).size := by simp; exact hlt
  rw [Array.getElem?_eq_getElem hs]
  have := get_flatK X k σ (i * k + j) hlt
  rw [getElem!_pos (flatK X k σ) (i * k + j) hs] at this
  rw [this, h1, h2]
  have hj' : j < (X σ[i]).length := by rw [hk]; exact hj
  rw [getElem!_pos σ i hi, getElem!_pos (X σ[i]) j hj', List.getElem?_eq_getElem hj']


theorem argsV_ext {M N : Mem} {i : Nat} (hi : M i = none) (h : ∀ j, j ≠ i → N j = M j) {ds : List D} {al : List AD} (hf : argsV M ds = some al) : argsV N ds = some al := by
  unfold argsV at hf ⊢
  obtain ⟨l, h1, h2⟩ := Option.map_eq_some_iff.1 hf
  rw [mapO_ext (fun x y _ => fz_ext hi h 4) h1, Option.map_some, h2]

theorem grow_of {W W' : World} (h1 : W.heap.size ≤ W'.heap.size) (h2 : ∀ b, b < W.heap.size → W'.heap[b]? = W.heap[b]?) (h3 : W'.os = W.os) (h4 : W'.tape = W.tape) (h5 : W'.output = W.output) (h6 : W.drawn ≤ W'.drawn) :
    ∃ q os', W' = Sort.grow (W.drewN q) os' := by
  refine ⟨W'.drawn - W.drawn, W'.heap.extract W.heap.size W'.heap.size, ?_⟩
  obtain ⟨hp, tp, dr, o, out⟩ := W'
  simp only at h1 h2 h3 h4 h5 h6
  subst h3; subst h4; subst h5
  have e1 : W.drawn + (dr - W.drawn) = dr := by omega
  have e2 : W.heap ++ hp.extract W.heap.size hp.size = hp := by
    apply Array.ext_getElem?
    intro i
    rcases Nat.lt_or_ge i W.heap.size with h | h
    · rw [Array.getElem?_append_left h, h2 i h]
    · rw [Array.getElem?_append_right h, Array.getElem?_extract]
      split
      · congr 1; omega
      · rw [Array.getElem?_eq_none]; omega
  simp only [Sort.grow, World.drewN, e1, e2]

theorem sort_ok {P : Program} {K : Kt} (hK : ∀ g c, K g = some c → c.srt = none → CallOk P g c) {f : FuncId} {k : Nat} {ag : Bool} (hS : SortOk P f k ag) {F : Fr} {g M w nx} (hM : MemOk F g M w) {x cmp : D} {u v : Value}
    (hx : Tv g (Ok F g M w) w x u) (hc : Tv g (Ok F g M w) w cmp v) (h : semSort K k ag x cmp M nx) : Calls P f #[u, v] w fun e w' => ∃ r, e = .returned r ∧ SR F g M w nx r w' := by
  have hemp : ∀ {A : Nat → Prop} {w : World} {g : Nat → Option GI}, Tv g A w (.tup []) (.tuple #[]) := .tup _ _ rfl (by simp)
  unfold semSort at h
  split at h
  · cases hx.cell rfl with
    | c _ _ hr => cases hr with
      | nils => exact (hS.nil none 0 v w).mono (by rintro e w' ⟨rfl, rfl⟩; exact ⟨_, rfl, SR.plain hM h hemp⟩)
  · rename_i id gg caps
    split at h
    · rename_i sz es c hm hkc
      obtain ⟨rfl, hk0, hcl, hsn, hlen, cf, ⟨ho1, ho2, ho3⟩, hcmp, hnx⟩ := h
      have ok := hK gg c hkc hsn
      cases hx.cell rfl with
      | c _ _ hr => cases hr
      | row _ gi a cp hg hn hcap ha =>
        obtain ⟨gi', hg', a0, a1, a2, a3, a4, a5⟩ := hM.ent id _ hm
        rw [hg] at hg'; cases hg'
        by_cases hes : es = []
        · subst hes
          have hz : gi.len = 0 := by simpa using a1
          rw [hz]
          have hself : upd M id (some (.row gi.sz [] true)) = M := by
            funext i; simp only [upd]; split
            · rename_i he; subst he; rw [hm, a0]
            · rfl
          have := hnx [] (List.Perm.refl _) .nil
          rw [← a0, hself] at this
          exact (hS.nil a cp v w).mono (by rintro e w' ⟨rfl, rfl⟩; exact ⟨_, rfl, SR.plain hM this hemp⟩)
        · have hlive : gi.live = true := by
            cases hl : gi.live with
            | true => rfl
            | false => exact absurd (a4 hl).1 hes
          obtain ⟨_, c0, T, b1, b2, b3⟩ := a5 hlive
          obtain ⟨n, hn1⟩ : ∃ n, es.length = n + 1 := ⟨es.length - 1, by have : es.length ≠ 0 := fun h => hes (List.eq_nil_of_length_eq_zero h); omega⟩
          have hgl : gi.len = n + 1 := by omega
          have hae : a = some ⟨gi.blk, 0, none⟩ := by
            rcases ha with h | h
            · omega
            · exact h
          subst hae
          rw [hgl]
          -- the function
          have hfn : ∃ cb : Array Value, v = .func (.func gg) #[] cb ∧ cb.size = caps.length ∧ ∀ (i : Nat) d u, caps[i]? = some d → cb[i]? = some u → Tc g (Ok F g M w) w d u := by
            cases hc.cell rfl with
            | c _ _ hr => cases hr with
              | fn _ _ _ us vs hl hs hff hrr =>
                have : vs = #[] := by simpa using hl
                subst this
                exact ⟨us, rfl, hs, fun i d u a b => .c _ _ (hrr i d u a b)⟩
            | fn _ _ _ us vs hl hs hff hrr =>
              have : vs = #[] := by simpa using hl
              subst this
              exact ⟨us, rfl, hs, hrr⟩
          obtain ⟨cb, rfl, hcs, hcr⟩ := hfn
          -- the elements
          let E : Fin (n + 1) → List D := fun i => es[i.1]'(by have := i.2; omega)
          let X : Fin (n + 1) → List Value := fun i => (c0.toList.drop (i.1 * sz)).take sz
          have hE : ∀ i, E i ∈ es := fun i => List.getElem_mem _
          have hEl : ∀ i, (E i).length = sz := fun i => a2 _ (hE i)
          have hroom : ∀ i : Fin (n + 1), i.1 * sz + sz ≤ c0.size := fun i => by
            have h1 : (i.1 + 1) * sz ≤ (n + 1) * sz := Nat.mul_le_mul_right _ i.2
            rw [Nat.add_mul, Nat.one_mul] at h1
            rw [hn1] at a3
            omega
          have hXl : ∀ i, (X i).length = sz := fun i => by
            have := hroom i
            simp only [X, List.length_take, List.length_drop, Array.length_toList]
            omega
          have hXg : ∀ i j, j < sz → (X i)[j]? = c0[i.1 * sz + j]? := fun i j hj => by
            simp only [X, List.getElem?_take, if_pos hj, List.getElem?_drop, Array.getElem?_toList]
          have hXR : ∀ (i : Fin (n + 1)) (j : Nat) d u, (E i)[j]? = some d → (X i)[j]? = some u → Rc (Ok F g M w) w d u := fun i j d u hd hu => by
            have hj : j < sz := by
              rw [← hEl i]
              rcases Nat.lt_or_ge j (E i).length with h | h
              · exact h
              · simp [List.getElem?_eq_none h] at hd
            rw [hXg i j hj] at hu
            exact b3 i.1 j (E i) d u (List.getElem?_eq_getElem _) hd hu
          have hX1 : ∀ i v, v ∈ X i → v.oneCell' = true := fun i v hv => by
            obtain ⟨j, hj⟩ := List.getElem?_of_mem hv
            have hjl : j < (E i).length := by
              rw [hEl i, ← hXl i]
              rcases Nat.lt_or_ge j (X i).length with h | h
              · exact h
              · simp [List.getElem?_eq_none h] at hj
            exact (hXR i j _ v (List.getElem?_eq_getElem hjl) hj).one
          have hblt : gi.blk < w.heap.size := (Array.getElem?_eq_some_iff.1 b1).1
          -- a world of the sort's
          have mid : ∀ (m : Nat) (os : Array Obj) (σ : Array (Fin (n + 1))), σ.size = n + 1 →
              MemOk F g (upd M id (some (.row sz (σ.toList.map E) true))) (swW w gi.blk (Sort.flatK X sz σ) m os) ∧ Le g (Ok F g M w) w g (Ok F g (upd M id (some (.row sz (σ.toList.map E) true))) (swW w gi.blk (Sort.flatK X sz σ) m os)) (swW w gi.blk (Sort.flatK X sz σ) m os) := by
            intro m os σ hσ
            refine mid_ok hM hm hg hlive b1 _ (by simp [hσ, hn1]) (fun e he => ?_) _ m os (fun i j e d u he hd hu => ?_)
            · obtain ⟨q, _, rfl⟩ := List.mem_map.1 he; exact hEl q
            · simp only [List.getElem?_map, Array.getElem?_toList] at he
              obtain ⟨q, hq, rfl⟩ := Option.map_eq_some_iff.1 he
              obtain ⟨hi, rfl⟩ := Array.getElem?_eq_some_iff.1 hq
              have hj : j < sz := by
                rw [← hEl σ[i]]
                rcases Nat.lt_or_ge j (E σ[i]).length with h | h
                · exact h
                · simp [List.getElem?_eq_none h] at hd
              have hf := flatK_get X sz σ hXl hi hj
              have hlt : i * sz + j < σ.size * sz := by
                have : (i + 1) * sz ≤ σ.size * sz := Nat.mul_le_mul_right _ hi
                rw [Nat.add_mul, Nat.one_mul] at this
                omega
              simp only [Sort.putCells, Array.getElem?_mapIdx] at hu
              obtain ⟨z, hz, hu⟩ := Option.map_eq_some_iff.1 hu
              rw [if_pos (by simp; exact hlt)] at hu
              have hfl : i * sz + j < (Sort.flatK X sz σ).size := by simp; exact hlt
              simp only [Nat.sub_zero, _root_.id] at hu
              rw [getElem!_pos (Sort.flatK X sz σ) (i * sz + j) hfl] at hu
              rw [Array.getElem?_eq_getElem hfl, hu] at hf
              exact hXR σ[i] j d u hd hf.symm
          have eg : ∀ args w, (callFunc gg args).run P w = .ok (.enter gg args) w := by
            intro args w
            obtain ⟨fn, h1, h2, h3⟩ := ok.fn
            simp only [callFunc, Sem.run_bind, run_program, Result.andThen_ok, h1, h3, h2, Bool.false_eq_true, if_false, Sem.run_pure]
          have hvE : ∀ {A : Nat → Prop} {W : World} {G : Nat → Option GI} (i : Fin (n + 1)), (∀ b, Ok F g M w b → A b ∧ W.heap[b]? = w.heap[b]?) → isCell (valE ag (E i)) = true ∨ ag = true → Tv G A W (valE ag (E i)) (valV ag (X i)) := by
            intro A W G i hA hcell
            cases ag with
            | true =>
              refine .agg _ _ (by simp [hXl, hEl]) fun j d u hd hu => ?_
              exact .c _ _ ((hXR i j d u hd (by simpa using hu)).mono hA)
            | false =>
              have h1 : ∃ d, (E i)[0]? = some d := ⟨_, List.getElem?_eq_getElem (by rw [hEl]; exact hk0)⟩
              have h2 : ∃ u, (X i)[0]? = some u := ⟨_, List.getElem?_eq_getElem (by rw [hXl]; exact hk0)⟩
              obtain ⟨d, hd⟩ := h1
              obtain ⟨u, hu⟩ := h2
              have e1 : valE false (E i) = d := by
                simp only [valE, Bool.false_eq_true, if_false]
                cases hq : E i with
                | nil => rw [hq] at hd; simp at hd
                | cons y l => rw [hq] at hd; simpa using hd
              have e2 : valV false (X i) = u := by
                simp only [valV, Bool.false_eq_true, if_false]
                cases hq : X i with
                | nil => rw [hq] at hu; simp at hu
                | cons y l => rw [hq] at hu; simpa using hu
              rw [e1, e2]
              exact .c _ _ (.c _ _ ((hXR i 0 d u hd hu).mono hA))
          have hswo : Sort.SWO (ltC fun i j => cf (E i) (E j)) := by
            refine ⟨fun x => ?_, fun x y z h1 h2 => ?_, fun x y z h1 h2 => ?_⟩
            · simp only [ltC, decide_eq_false_iff_not]; exact ho1 _ (hE x)
            · simp only [ltC, decide_eq_true_eq] at *; exact ho2 _ _ _ (hE x) (hE y) (hE z) h1 h2
            · simp only [ltC, decide_eq_false_iff_not] at *; exact ho3 _ _ _ (hE x) (hE y) (hE z) h1 h2
          refine (hS.srt n X hXl hX1 (fun i j => cf (E i) (E j)) hswo gg cb gi.blk cp w eg (fun m os σ hσ i j => ?_) (fun j hj => ?_) hblt (by omega)).mono ?_
          · obtain ⟨m1, m2⟩ := mid m os σ hσ
            obtain ⟨a, ha1, ha2, ha3⟩ := hcmp (E i) (E j) (hE i) (hE j)
            have ha1' := argsV_ext (N := upd M id (some (.row sz (σ.toList.map E) true))) (upd_same _ _ _) (fun q hq => by rw [upd_ne _ _ hq, upd_ne _ _ hq]) ha1
            have hA := argsV_ok m1 (A := fun b => b < (swW w gi.blk (Sort.flatK X sz σ) m os).heap.size) (fun b hb => hb.1) (fun b hb => hb) _ _ (valV ag (X i) :: valV ag (X j) :: cb.toList) ha1' (by simp [hcs]) (fun q d u hd hu => by
              match q with
              | 0 => simp only [List.getElem?_cons_zero, Option.some.injEq] at hd hu; subst hd; subst hu; exact hvE i m2.A (by cases ag <;> simp [valE]; cases hq : E i with | nil => exact absurd (hEl i) (by rw [hq]; simp; omega) | cons y l => exact (hXR i 0 y _ (by rw [hq]; rfl) (List.getElem?_eq_getElem (by rw [hXl]; exact hk0))).one_cell)
              | 1 => simp only [List.getElem?_cons_succ, List.getElem?_cons_zero, Option.some.injEq] at hd hu; subst hd; subst hu; exact hvE j m2.A (by cases ag <;> simp [valE]; cases hq : E j with | nil => exact absurd (hEl j) (by rw [hq]; simp; omega) | cons y l => exact (hXR j 0 y _ (by rw [hq]; rfl) (List.getElem?_eq_getElem (by rw [hXl]; exact hk0))).one_cell)
              | q + 2 =>
                simp only [List.getElem?_cons_succ] at hd hu
                exact .c _ _ ((hcr q d u hd (by simpa using hu)).mono m2))
            have hcall := ok.calls a ha2 _ _ [] _ hA List.nodup_nil (by simp) (fun b hb => hb)
            have e1 : (valV ag (X i) :: valV ag (X j) :: cb.toList).toArray = #[valV ag (X i), valV ag (X j)] ++ cb := by apply Array.ext'; simp
            rw [e1] at hcall
            refine hcall.mono ?_
            rintro e w' ⟨v, r, rfl, hpost, hR⟩
            have := ha3 r hpost
            subst this
            obtain ⟨gis, vs, hv, hvl, hgl', hone, _⟩ := hR.ret
            refine ⟨?_, grow_of hR.size (fun b hb => hR.old b hb (by simp)) hR.os hR.tape hR.output hR.dr⟩
            simp only [List.length_cons, List.length_nil, Nat.zero_add] at hvl hgl'
            obtain ⟨u, rfl⟩ := List.length_eq_one_iff.1 hvl
            obtain ⟨q, rfl⟩ := List.length_eq_one_iff.1 hgl'
            have h1 := hone 0 _ q u rfl rfl rfl
            cases q with
            | some gi => exact h1.elim
            | none =>
              have h1' : Rv _ _ _ _ := h1
              rw [hv]
              cases h1'.cell rfl with
              | c _ _ hr => cases hr; rfl
          · have hjl : j < (n + 1) * sz := by simpa using hj
            have hfl : j < (Sort.flatK X sz (Array.ofFn (n := n + 1) _root_.id)).size := by simpa using hj
            have hdm : j / sz < n + 1 ∧ j % sz < sz := ⟨Nat.div_lt_of_lt_mul (by rw [Nat.mul_comm]; exact hjl), Nat.mod_lt _ hk0⟩
            have hf := flatK_get X sz (Array.ofFn (n := n + 1) _root_.id) hXl (i := j / sz) (j := j % sz) (by simpa using hdm.1) hdm.2
            have e1 : j / sz * sz + j % sz = j := by rw [Nat.mul_comm]; exact Nat.div_add_mod j sz
            rw [e1, hXg _ _ hdm.2] at hf
            simp only [Array.getElem_ofFn, _root_.id] at hf
            rw [e1] at hf
            constructor
            · simp only [World.cell?, b1, Option.isSome_none, Bool.false_eq_true, if_false, Nat.zero_add, _root_.id]
              rw [← hf, getElem!_pos (Sort.flatK X sz (Array.ofFn (n := n + 1) _root_.id)) j hfl, Array.getElem?_eq_getElem hfl]
            · simp [World.frozen?, b1]
          · rintro e w' ⟨rfl, σ, m, os, hperm, hsort, rfl⟩
            have hσ : σ.size = n + 1 := by have := hperm.length_eq; simpa using this
            obtain ⟨m1, m2⟩ := mid m os σ hσ
            have hEs : (List.finRange (n + 1)).map E = es := by
              apply List.ext_getElem
              · simp [hn1]
              · intro i h1 h2; simp [E]
            refine ⟨_, rfl, .tup [], _, g, hnx (σ.toList.map E) ?_ ?_, m1, m2, hemp⟩
            · have := hperm.map E
              rwa [hEs] at this
            · rw [List.pairwise_map, List.pairwise_iff_getElem]
              intro i j hi hj hij
              have := hsort i j hij (by simpa [hσ] using hj)
              rw [getElem!_pos σ j (by simpa using hj), getElem!_pos σ i (by simpa using hi)] at this
              simpa [ltC] using this
    · exact h.elim
  · exact h.elim

end Go.Abs
