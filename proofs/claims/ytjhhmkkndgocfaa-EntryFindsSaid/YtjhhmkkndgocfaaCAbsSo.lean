/- The abstract machine: sorts. -/
import Derived.Test.YtjhhmkkndgocfaaCAbsA
import Derived.Shelf.GgSortFunc.RowK
import Derived.Deep.Draws
import Derived.Laws.StructEq
import Derived.ChangeKeysEq
import Derived.WideKeyRuns
import Derived.Laws.Cover3
set_option linter.unusedVariables false
set_option linter.unusedSimpArgs false
namespace Go.Abs
open Go Go.Sort

def ltC {α : Type} (cf : α → α → Int) (x y : α) : Bool := decide (cf x y < 0)

/-- The worlds that a sort passes through. -/
def swW (w : World) (blk : Nat) (V : Array Value) (m : Nat) (os : Array Obj) : World := Sort.grow (putRow id (Sort.ahead w m) blk 0 V) os
def valV (ag : Bool) (l : List Value) : Value := if ag then .agg l.toArray else l.headD undef

structure SortOk (P : Program) (f : FuncId) (k : Nat) (ag : Bool) : Prop where
  fn : ∃ fn, P.funcs[f]? = some fn ∧ fn.body.isNone = false ∧ (fn.name == "runtime.NumGoroutine") = false
  nil : ∀ (p : Option Addr) (cap : Nat) (fv : Value) (w : World), Calls P f #[.slice p 0 cap, fv] w fun e w' => e = .returned (.tuple #[]) ∧ w' = w
  srt : ∀ (n : Nat) (X : Fin (n + 1) → List Value), (∀ i, (X i).length = k) → (∀ i v, v ∈ X i → v.oneCell' = true) → ∀ (cf : Fin (n + 1) → Fin (n + 1) → Int), SWO (ltC cf) → ∀ (g : Nat) (cb : Array Value) (blk cap : Nat) (w : World),
    (∀ args w, (callFunc g args).run P w = .ok (.enter g args) w) →
    (∀ (m : Nat) (os : Array Obj) (σ : Array (Fin (n + 1))), σ.size = n + 1 → ∀ i j, Calls P g (#[valV ag (X i), valV ag (X j)] ++ cb) (swW w blk (flatK X k σ) m os) fun e w' => e = .returned (.int .i64 (cf i j)) ∧ ∃ q os', w' = Sort.grow ((swW w blk (flatK X k σ) m os).drewN q) os') →
    Holds id w blk 0 (flatK X k (Array.ofFn id)) → blk < w.heap.size → n + 1 < 4611686018427387904 →
    Calls P f #[.slice (some ⟨blk, 0, none⟩) (n + 1) cap, .func (.func g) #[] cb] w fun e w' => e = .returned (.tuple #[]) ∧
      ∃ (σ : Array (Fin (n + 1))) (m : Nat) (os : Array Obj), σ.toList.Perm (List.finRange (n + 1)) ∧ (∀ i j, i < j → j < n + 1 → ltC cf σ[j]! σ[i]! = false) ∧ w' = swW w blk (flatK X k σ) m os

/-- More blocks. -/
theorem MemOk.grow {F : Fr} {g M w} (h : MemOk F g M w) (os : Array Obj) : MemOk F g M (grow w os) ∧ Le g (Ok F g M w) w g (Ok F g M (Sort.grow w os)) (Sort.grow w os) :=
  h.step (fun b => w.heap.size ≤ b) (fun _ _ h => h) h.dom (fun b hb _ => heap_grow_old w os hb) (fun b hb hw => by have := hb.1; omega) (fun b hw hlt => by have := h.size; omega) (by simp) rfl rfl rfl
    (fun _ id e he => .inl ⟨he, fun gi hg hx hlv hw => by have := (h.lo id e gi he hx hg hlv).1; omega⟩) (fun id e gi h1 _ h3 _ => .inl ⟨h1, h3⟩) h.inj

theorem heap_putRow {w : World} {blk m : Nat} {V c : Array Value} {T : TypeId} (hb : w.heap[blk]? = some (.cells c T (0, 0))) : (putRow id (Sort.ahead w m) blk 0 V).heap[blk]? = some (.cells (putCells id 0 V c) T (0, 0)) ∧ ∀ b, b ≠ blk → (putRow id (Sort.ahead w m) blk 0 V).heap[b]? = w.heap[b]? := by
  constructor
  · simp [putRow, mapBlock, Sort.ahead, Array.getElem?_modify, hb, onCells]
  · intro b hne
    simp [putRow, mapBlock, Sort.ahead, Array.getElem?_modify, Ne.symm hne]

theorem swW_heap {w : World} {blk m : Nat} {V : Array Value} {os : Array Obj} : (swW w blk V m os).heap = (putRow id (Sort.ahead w m) blk 0 V).heap ++ os := rfl

/-- The state at such a world. -/
theorem mid_ok {F : Fr} {g M w} (hM : MemOk F g M w) {id sz : Nat} {es : List (List D)} (hm : M id = some (.row sz es true)) {gi : GI} (hg : g id = some gi) (hlv : gi.live = true) {c : Array Value} {T : TypeId}
    (hb : w.heap[gi.blk]? = some (.cells c T (0, 0))) (es' : List (List D)) (hl : es'.length = es.length) (hsz : ∀ e, e ∈ es' → e.length = sz) (V : Array Value) (m : Nat) (os : Array Obj)
    (hr : ∀ (i j : Nat) e d u, es'[i]? = some e → e[j]? = some d → (putCells _root_.id 0 V c)[i * sz + j]? = some u → Rc (Ok F g M w) w d u) :
    MemOk F g (upd M id (some (.row sz es' true))) (swW w gi.blk V m os) ∧ Le g (Ok F g M w) w g (Ok F g (upd M id (some (.row sz es' true))) (swW w gi.blk V m os)) (swW w gi.blk V m os) := by
  obtain ⟨gi', hg', a0, a1, a2, a3, a4, a5⟩ := hM.ent id _ hm
  rw [hg] at hg'; cases hg'
  obtain ⟨_, c', T', b1, b2, b3⟩ := a5 hlv
  rw [hb] at b1; cases b1
  obtain ⟨p1, p2⟩ := heap_putRow (m := m) (V := V) hb
  obtain ⟨k1, k2⟩ := hM.modify (e' := .row sz es' true) hm rfl hg hlv (w' := putRow _root_.id (Sort.ahead w m) gi.blk 0 V) p2 (by simp [putRow, mapBlock, Sort.ahead]) rfl rfl rfl rfl
    (fun hL => ⟨a0, by rw [hl]; exact a1, hsz, by rw [hl]; exact a3, fun h => by rw [hlv] at h; simp at h, fun _ => ⟨fun h => by simp at h, _, T, p1, by simpa [putCells] using b2, fun i j e d u x y z => (hr i j e d u x y z).mono hL.A⟩⟩)
    (by show w.drawn ≤ w.drawn + m; omega)
  obtain ⟨k3, k4⟩ := k1.grow os
  exact ⟨k3, k2.trans k4⟩

theorem fz0_ext {M N : Mem} {i : Nat} (hi : M i = none) (h : ∀ j, j ≠ i → N j = M j) {b : Bool} {d d' : D} (hf : fz0 M b d = some d') : fz0 N b d = some d' := by
  have key : ∀ id, M id ≠ none → N id = M id := fun id hid => h id fun he => hid (he ▸ hi)
  unfold fz0 at hf ⊢
  split at hf <;> first
    | exact hf
    | (rename_i id; cases hm : M id with
        | none => rw [hm] at hf; cases hf
        | some e => rw [key id (by rw [hm]; simp), hm]; rw [hm] at hf; exact hf)
    | (rename_i id _ _; cases hm : M id with
        | none => rw [hm] at hf; cases hf
        | some e => rw [key id (by rw [hm]; simp), hm]; rw [hm] at hf; exact hf)
    | cases hf

theorem mapO_ext {α β : Type} {f f' : α → Option β} : ∀ {l : List α} {l' : List β}, (∀ x y, x ∈ l → f x = some y → f' x = some y) → mapO f l = some l' → mapO f' l = some l'
  | [], l', _, h => h
  | x :: l, l', hh, h => by
    simp only [mapO] at h ⊢
    split at h
    · rename_i y r h1 h2
      rw [hh x y List.mem_cons_self h1, mapO_ext (fun z w hz => hh z w (List.mem_cons_of_mem _ hz)) h2]
      exact h
    · cases h

theorem fz_ext {M N : Mem} {i : Nat} (hi : M i = none) (h : ∀ j, j ≠ i → N j = M j) {b : Bool} : ∀ (n : Nat) {d d' : D}, fz M b n d = some d' → fz N b n d = some d'
  | 0, d, d', hf => by unfold fz at hf ⊢; exact fz0_ext hi h hf
  | n + 1, d, d', hf => by
    cases d with
    | box id off =>
      simp only [fz] at hf ⊢
      cases hm : M id with
      | none => rw [hm] at hf; cases hf
      | some e =>
        rw [h id (fun he => by subst he; rw [hi] at hm; cases hm), hm]
        rw [hm] at hf
        cases e <;> try exact hf
        rename_i cs
        simp only at hf ⊢
        split at hf
        · split at hf
          · rename_i cs' hcs
            rw [if_pos (by assumption), mapO_ext (fun x y _ => fz_ext hi h n) hcs]
            exact hf
          · cases hf
        · cases hf
    | fn f x y =>
      simp only [fz] at hf ⊢
      split at hf
      · rename_i x' y' h1 h2
        rw [mapO_ext (fun x y _ => fz_ext hi h n) h1, mapO_ext (fun x y _ => fz_ext hi h n) h2]
        exact hf
      · cases hf
    | agg cs =>
      simp only [fz] at hf ⊢
      split at hf
      · rename_i x' h1
        rw [mapO_ext (fun x y _ => fz_ext hi h n) h1]
        exact hf
      · cases hf
    | row id => exact fz0_ext (d := .row id) hi h hf
    | vw id x y => exact fz0_ext (d := .vw id x y) hi h hf
    | elt id x y => exact fz0_ext (d := .elt id x y) hi h hf
    | v x => exact hf
    | nils => exact hf
    | sl x y => exact hf
    | rp x y z t => exact hf
    | _ => simp [fz, fz0] at hf

theorem Rc.one_cell {A : Nat → Prop} {w : World} {d : D} {u : Value} (h : Rc A w d u) : isCell d = true := by cases h <;> rfl

theorem flatK_get {α : Type} [Inhabited α] (X : α → List Value) (k : Nat) (σ : Array α) {i j : Nat} (hk : ∀ a, (X a).length = k) (hi : i < σ.size) (hj : j < k) : (flatK X k σ)[i * k + j]? = (X σ[i])[j]? := by
  have hlt : i * k + j < σ.size * k := by
    have : (i + 1) * k ≤ σ.size * k := Nat.mul_le_mul_right _ hi
    rw [Nat.add_mul, Nat.one_mul] at this
    omega
  have h1 : (i * k + j) / k = i := by rw [Nat.mul_comm, Nat.mul_add_div (by omega), Nat.div_eq_of_lt hj]; omega
  have h2 : (i * k + j) % k = j := by rw [Nat.mul_comm, Nat.mul_add_mod, Nat.mod_eq_of_lt hj]
  have hs : i * k + j < (flatK X k σ).size := by simp; exact hlt
  rw [Array.getElem?_eq_getElem hs]
  have := get_flatK X k σ (i * k + j) hlt
  rw [getElem!_pos (flatK X k σ) (i * k + j) hs] at this
  rw [this, h1, h2]
  have hj' : j < (X σ[i]).length := by rw [hk]; exact hj
  rw [getElem!_pos σ i hi, getElem!_pos (X σ[i]) j hj', List.getElem?_eq_getElem hj']


theorem argsV_ext {M N : Mem} {i : Nat} (hi : M i = none) (h : ∀ j, j ≠ i → N j = M j) {ds : List D} {al : List AD} (hf : argsV M ds = some al) : argsV N ds = some al := by
  unfold argsV at hf ⊢
  obtain ⟨l, h1, h2⟩ := Option.map_eq_some_iff.1 hf
  rw [mapO_ext (fun x y _ => fz_ext hi h 4) h1, Option.map_some, h2]

theorem grow_of {W W' : World} (h1 : W.heap.size ≤ W'.heap.size) (h2 : ∀ b, b < W.heap.size → W'.heap[b]? = W.heap[b]?) (h3 : W'.os = W.os) (h4 : W'.tape = W.tape) (h5 : W'.output = W.output) (h6 : W.drawn ≤ W'.drawn) :
    ∃ q os', W' = Sort.grow (W.drewN q) os' := by
  refine ⟨W'.drawn - W.drawn, W'.heap.extract W.heap.size W'.heap.size, ?_⟩
  obtain ⟨hp, tp, dr, o, out⟩ := W'
  simp only at h1 h2 h3 h4 h5 h6
  subst h3; subst h4; subst h5
  have e1 : W.drawn + (dr - W.drawn) = dr := by omega
  have e2 : W.heap ++ hp.extract W.heap.size hp.size = hp := by
    apply Array.ext_getElem?
    intro i
    rcases Nat.lt_or_ge i W.heap.size with h | h
    · rw [Array.getElem?_append_left h, h2 i h]
    · rw [Array.getElem?_append_right h, Array.getElem?_extract]
      split
      · congr 1; omega
      · rw [Array.getElem?_eq_none]; omega
  simp only [Sort.grow, World.drewN, e1, e2]

theorem sort_ok {P : Program} {K : Kt} (hK : ∀ g c, K g = some c → c.srt = none → CallOk P g c) {f : FuncId} {k : Nat} {ag : Bool} (hS : SortOk P f k ag) {F : Fr} {g M w nx} (hM : MemOk F g M w) {x cmp : D} {u v : Value}
    (hx : Tv g (Ok F g M w) w x u) (hc : Tv g (Ok F g M w) w cmp v) (h : semSort K k ag x cmp M nx) : Calls P f #[u, v] w fun e w' => ∃ r, e = .returned r ∧ SR F g M w nx r w' := by
  have hemp : ∀ {A : Nat → Prop} {w : World} {g : Nat → Option GI}, Tv g A w (.tup []) (.tuple #[]) := .tup _ _ rfl (by simp)
  unfold semSort at h
  split at h
  · cases hx.cell rfl with
    | c _ _ hr => cases hr with
      | nils => exact (hS.nil none 0 v w).mono (by rintro e w' ⟨rfl, rfl⟩; exact ⟨_, rfl, SR.plain hM h hemp⟩)
  · rename_i id gg caps
    split at h
    · rename_i sz es c hm hkc
      obtain ⟨rfl, hk0, hcl, hsn, hlen, cf, ⟨ho1, ho2, ho3⟩, hcmp, hnx⟩ := h
      have ok := hK gg c hkc hsn
      cases hx.cell rfl with
      | c _ _ hr => cases hr
      | row _ gi a cp hg hn hcap ha =>
        obtain ⟨gi', hg', a0, a1, a2, a3, a4, a5⟩ := hM.ent id _ hm
        rw [hg] at hg'; cases hg'
        by_cases hes : es = []
        · subst hes
          have hz : gi.len = 0 := by simpa using a1
          rw [hz]
          have hself : upd M id (some (.row gi.sz [] true)) = M := by
            funext i; simp only [upd]; split
            · rename_i he; subst he; rw [hm, a0]
            · rfl
          have := hnx [] (List.Perm.refl _) .nil
          rw [← a0, hself] at this
          exact (hS.nil a cp v w).mono (by rintro e w' ⟨rfl, rfl⟩; exact ⟨_, rfl, SR.plain hM this hemp⟩)
        · have hlive : gi.live = true := by
            cases hl : gi.live with
            | true => rfl
            | false => exact absurd (a4 hl).1 hes
          obtain ⟨_, c0, T, b1, b2, b3⟩ := a5 hlive
          obtain ⟨n, hn1⟩ : ∃ n, es.length = n + 1 := ⟨es.length - 1, by have : es.length ≠ 0 := fun h => hes (List.eq_nil_of_length_eq_zero h); omega⟩
          have hgl : gi.len = n + 1 := by omega
          have hae : a = some ⟨gi.blk, 0, none⟩ := by
            rcases ha with h | h
            · omega
            · exact h
          subst hae
          rw [hgl]
          -- the function
          have hfn : ∃ cb : Array Value, v = .func (.func gg) #[] cb ∧ cb.size = caps.length ∧ ∀ (i : Nat) d u, caps[i]? = some d → cb[i]? = some u → Tc g (Ok F g M w) w d u := by
            cases hc.cell rfl with
            | c _ _ hr => cases hr with
              | fn _ _ _ us vs hl hs hff hrr =>
                have : vs = #[] := by simpa using hl
                subst this
                exact ⟨us, rfl, hs, fun i d u a b => .c _ _ (hrr i d u a b)⟩
            | fn _ _ _ us vs hl hs hff hrr =>
              have : vs = #[] := by simpa using hl
              subst this
              exact ⟨us, rfl, hs, hrr⟩
          obtain ⟨cb, rfl, hcs, hcr⟩ := hfn
          -- the elements
          let E : Fin (n + 1) → List D := fun i => es[i.1]'(by have := i.2; omega)
          let X : Fin (n + 1) → List Value := fun i => (c0.toList.drop (i.1 * sz)).take sz
          have hE : ∀ i, E i ∈ es := fun i => List.getElem_mem _
          have hEl : ∀ i, (E i).length = sz := fun i => a2 _ (hE i)
          have hroom : ∀ i : Fin (n + 1), i.1 * sz + sz ≤ c0.size := fun i => by
            have h1 : (i.1 + 1) * sz ≤ (n + 1) * sz := Nat.mul_le_mul_right _ i.2
            rw [Nat.add_mul, Nat.one_mul] at h1
            rw [hn1] at a3
            omega
          have hXl : ∀ i, (X i).length = sz := fun i => by
            have := hroom i
            simp only [X, List.length_take, List.length_drop, Array.length_toList]
            omega
          have hXg : ∀ i j, j < sz → (X i)[j]? = c0[i.1 * sz + j]? := fun i j hj => by
            simp only [X, List.getElem?_take, if_pos hj, List.getElem?_drop, Array.getElem?_toList]
          have hXR : ∀ (i : Fin (n + 1)) (j : Nat) d u, (E i)[j]? = some d → (X i)[j]? = some u → Rc (Ok F g M w) w d u := fun i j d u hd hu => by
            have hj : j < sz := by
              rw [← hEl i]
              rcases Nat.lt_or_ge j (E i).length with h | h
              · exact h
              · simp [List.getElem?_eq_none h] at hd
            rw [hXg i j hj] at hu
            exact b3 i.1 j (E i) d u (List.getElem?_eq_getElem _) hd hu
          have hX1 : ∀ i v, v ∈ X i → v.oneCell' = true := fun i v hv => by
            obtain ⟨j, hj⟩ := List.getElem?_of_mem hv
            have hjl : j < (E i).length := by
              rw [hEl i, ← hXl i]
              rcases Nat.lt_or_ge j (X i).length with h | h
              · exact h
              · simp [List.getElem?_eq_none h] at hj
            exact (hXR i j _ v (List.getElem?_eq_getElem hjl) hj).one
          have hblt : gi.blk < w.heap.size := (Array.getElem?_eq_some_iff.1 b1).1
          -- a world of the sort's
          have mid : ∀ (m : Nat) (os : Array Obj) (σ : Array (Fin (n + 1))), σ.size = n + 1 →
              MemOk F g (upd M id (some (.row sz (σ.toList.map E) true))) (swW w gi.blk (Sort.flatK X sz σ) m os) ∧ Le g (Ok F g M w) w g (Ok F g (upd M id (some (.row sz (σ.toList.map E) true))) (swW w gi.blk (Sort.flatK X sz σ) m os)) (swW w gi.blk (Sort.flatK X sz σ) m os) := by
            intro m os σ hσ
            refine mid_ok hM hm hg hlive b1 _ (by simp [hσ, hn1]) (fun e he => ?_) _ m os (fun i j e d u he hd hu => ?_)
            · obtain ⟨q, _, rfl⟩ := List.mem_map.1 he; exact hEl q
            · simp only [List.getElem?_map, Array.getElem?_toList] at he
              obtain ⟨q, hq, rfl⟩ := Option.map_eq_some_iff.1 he
              obtain ⟨hi, rfl⟩ := Array.getElem?_eq_some_iff.1 hq
              have hj : j < sz := by
                rw [← hEl σ[i]]
                rcases Nat.lt_or_ge j (E σ[i]).length with h | h
                · exact h
                · simp [List.getElem?_eq_none h] at hd
              have hf := flatK_get X sz σ hXl hi hj
              have hlt : i * sz + j < σ.size * sz := by
                have : (i + 1) * sz ≤ σ.size * sz := Nat.mul_le_mul_right _ hi
                rw [Nat.add_mul, Nat.one_mul] at this
                omega
              simp only [Sort.putCells, Array.getElem?_mapIdx] at hu
              obtain ⟨z, hz, hu⟩ := Option.map_eq_some_iff.1 hu
              rw [if_pos (by simp; exact hlt)] at hu
              have hfl : i * sz + j < (Sort.flatK X sz σ).size := by simp; exact hlt
              simp only [Nat.sub_zero, _root_.id] at hu
              rw [getElem!_pos (Sort.flatK X sz σ) (i * sz + j) hfl] at hu
              rw [Array.getElem?_eq_getElem hfl, hu] at hf
              exact hXR σ[i] j d u hd hf.symm
          have eg : ∀ args w, (callFunc gg args).run P w = .ok (.enter gg args) w := by
            intro args w
            obtain ⟨fn, h1, h2, h3⟩ := ok.fn
            simp only [callFunc, Sem.run_bind, run_program, Result.andThen_ok, h1, h3, h2, Bool.false_eq_true, if_false, Sem.run_pure]
          have hvE : ∀ {A : Nat → Prop} {W : World} {G : Nat → Option GI} (i : Fin (n + 1)), (∀ b, Ok F g M w b → A b ∧ W.heap[b]? = w.heap[b]?) → isCell (valE ag (E i)) = true ∨ ag = true → Tv G A W (valE ag (E i)) (valV ag (X i)) := by
            intro A W G i hA hcell
            cases ag with
            | true =>
              refine .agg _ _ (by simp [hXl, hEl]) fun j d u hd hu => ?_
              exact .c _ _ ((hXR i j d u hd (by simpa using hu)).mono hA)
            | false =>
              have h1 : ∃ d, (E i)[0]? = some d := ⟨_, List.getElem?_eq_getElem (by rw [hEl]; exact hk0)⟩
              have h2 : ∃ u, (X i)[0]? = some u := ⟨_, List.getElem?_eq_getElem (by rw [hXl]; exact hk0)⟩
              obtain ⟨d, hd⟩ := h1
              obtain ⟨u, hu⟩ := h2
              have e1 : valE false (E i) = d := by
                simp only [valE, Bool.false_eq_true, if_false]
                cases hq : E i with
                | nil => rw [hq] at hd; simp at hd
                | cons y l => rw [hq] at hd; simpa using hd
              have e2 : valV false (X i) = u := by
                simp only [valV, Bool.false_eq_true, if_false]
                cases hq : X i with
                | nil => rw [hq] at hu; simp at hu
                | cons y l => rw [hq] at hu; simpa using hu
              rw [e1, e2]
              exact .c _ _ (.c _ _ ((hXR i 0 d u hd hu).mono hA))
          have hswo : Sort.SWO (ltC fun i j => cf (E i) (E j)) := by
            refine ⟨fun x => ?_, fun x y z h1 h2 => ?_, fun x y z h1 h2 => ?_⟩
            · simp only [ltC, decide_eq_false_iff_not]; exact ho1 _ (hE x)
            · simp only [ltC, decide_eq_true_eq] at *; exact ho2 _ _ _ (hE x) (hE y) (hE z) h1 h2
            · simp only [ltC, decide_eq_false_iff_not] at *; exact ho3 _ _ _ (hE x) (hE y) (hE z) h1 h2
          refine (hS.srt n X hXl hX1 (fun i j => cf (E i) (E j)) hswo gg cb gi.blk cp w eg (fun m os σ hσ i j => ?_) (fun j hj => ?_) hblt (by omega)).mono ?_
          · obtain ⟨m1, m2⟩ := mid m os σ hσ
            obtain ⟨a, ha1, ha2, ha3⟩ := hcmp (E i) (E j) (hE i) (hE j)
            have ha1' := argsV_ext (N := upd M id (some (.row sz (σ.toList.map E) true))) (upd_same _ _ _) (fun q hq => by rw [upd_ne _ _ hq, upd_ne _ _ hq]) ha1
            have hA := argsV_ok m1 (A := fun b => b < (swW w gi.blk (Sort.flatK X sz σ) m os).heap.size) (fun b hb => hb.1) (fun b hb => hb) _ _ (valV ag (X i) :: valV ag (X j) :: cb.toList) ha1' (by simp [hcs]) (fun q d u hd hu => by
              match q with
              | 0 => simp only [List.getElem?_cons_zero, Option.some.injEq] at hd hu; subst hd; subst hu; exact hvE i m2.A (by cases ag <;> simp [valE]; cases hq : E i with | nil => exact absurd (hEl i) (by rw [hq]; simp; omega) | cons y l => exact (hXR i 0 y _ (by rw [hq]; rfl) (List.getElem?_eq_getElem (by rw [hXl]; exact hk0))).one_cell)
              | 1 => simp only [List.getElem?_cons_succ, List.getElem?_cons_zero, Option.some.injEq] at hd hu; subst hd; subst hu; exact hvE j m2.A (by cases ag <;> simp [valE]; cases hq : E j with | nil => exact absurd (hEl j) (by rw [hq]; simp; omega) | cons y l => exact (hXR j 0 y _ (by rw [hq]; rfl) (List.getElem?_eq_getElem (by rw [hXl]; exact hk0))).one_cell)
              | q + 2 =>
                simp only [List.getElem?_cons_succ] at hd hu
                exact .c _ _ ((hcr q d u hd (by simpa using hu)).mono m2))
            have hcall := ok.calls a ha2 _ _ [] _ hA List.nodup_nil (by simp) (fun b hb => hb)
            have e1 : (valV ag (X i) :: valV ag (X j) :: cb.toList).toArray = #[valV ag (X i), valV ag (X j)] ++ cb := by apply Array.ext'; simp
            rw [e1] at hcall
            refine hcall.mono ?_
            rintro e w' ⟨v, r, rfl, hpost, hR⟩
            have := ha3 r hpost
            subst this
            obtain ⟨gis, vs, hv, hvl, hgl', hone, _⟩ := hR.ret
            refine ⟨?_, grow_of hR.size (fun b hb => hR.old b hb (by simp)) hR.os hR.tape hR.output hR.dr⟩
            simp only [List.length_cons, List.length_nil, Nat.zero_add] at hvl hgl'
            obtain ⟨u, rfl⟩ := List.length_eq_one_iff.1 hvl
            obtain ⟨q, rfl⟩ := List.length_eq_one_iff.1 hgl'
            have h1 := hone 0 _ q u rfl rfl rfl
            cases q with
            | some gi => exact h1.elim
            | none =>
              have h1' : Rv _ _ _ _ := h1
              rw [hv]
              cases h1'.cell rfl with
              | c _ _ hr => cases hr; rfl
          · have hjl : j < (n + 1) * sz := by simpa using hj
            have hfl : j < (Sort.flatK X sz (Array.ofFn (n := n + 1) _root_.id)).size := by simpa using hj
            have hdm : j / sz < n + 1 ∧ j % sz < sz := ⟨Nat.div_lt_of_lt_mul (by rw [Nat.mul_comm]; exact hjl), Nat.mod_lt _ hk0⟩
            have hf := flatK_get X sz (Array.ofFn (n := n + 1) _root_.id) hXl (i := j / sz) (j := j % sz) (by simpa using hdm.1) hdm.2
            have e1 : j / sz * sz + j % sz = j := by rw [Nat.mul_comm]; exact Nat.div_add_mod j sz
            rw [e1, hXg _ _ hdm.2] at hf
            simp only [Array.getElem_ofFn, _root_.id] at hf
            rw [e1] at hf
            constructor
            · simp only [World.cell?, b1, Option.isSome_none, Bool.false_eq_true, if_false, Nat.zero_add, _root_.id]
              rw [← hf, getElem!_pos (Sort.flatK X sz (Array.ofFn (n := n + 1) _root_.id)) j hfl, Array.getElem?_eq_getElem hfl]
            · simp [World.frozen?, b1]
          · rintro e w' ⟨rfl, σ, m, os, hperm, hsort, rfl⟩
            have hσ : σ.size = n + 1 := by have := hperm.length_eq; simpa using this
            obtain ⟨m1, m2⟩ := mid m os σ hσ
            have hEs : (List.finRange (n + 1)).map E = es := by
              apply List.ext_getElem
              · simp [hn1]
              · intro i h1 h2; simp [E]
            refine ⟨_, rfl, .tup [], _, g, hnx (σ.toList.map E) ?_ ?_, m1, m2, hemp⟩
            · have := hperm.map E
              rwa [hEs] at this
            · rw [List.pairwise_map, List.pairwise_iff_getElem]
              intro i j hi hj hij
              have := hsort i j hij (by simpa [hσ] using hj)
              rw [getElem!_pos σ j (by simpa using hj), getElem!_pos σ i (by simpa using hi)] at this
              simpa [ltC] using this
    · exact h.elim
  · exact h.elim

end Go.Abs

/- The abstract machine: what slices.Insert (of one element) and slices.Delete (of one) do to a row; worlds only. -/
set_option linter.unusedVariables false
set_option linter.unusedSimpArgs false
namespace Go.Abs
open Go

/-- The row is the same block as before. -/
def OutIn (blk cap sz m : Nat) (L : List Value) (w : World) (e : Ending) (w' : World) : Prop :=
  ∃ (q : Nat) (cur' : Array Value), cur'.size = sz ∧ m ≤ cap ∧ e = .returned (.slice (some ⟨blk, 0, none⟩) m cap) ∧ w' = (w.drewN q).setRow blk cur' ∧ ∀ (j : Nat) v, L[j]? = some v → cur'[j]? = some v
/-- The row is a new block. -/
def OutNew (k m : Nat) (L : List Value) (w : World) (e : Ending) (w' : World) : Prop :=
  ∃ (q : Nat) (cur' : Array Value) (T : TypeId) (cap : Nat), m ≤ cap ∧ cap * k ≤ cur'.size ∧ e = .returned (.slice (some ⟨w.heap.size, 0, none⟩) m cap) ∧ w' = (w.drewN q).alloc (.cells cur' T) ∧ ∀ (j : Nat) v, L[j]? = some v → cur'[j]? = some v

structure InsOk (P : Program) (f : FuncId) (k by' : Nat) : Prop where
  fn : ∃ fn, P.funcs[f]? = some fn ∧ fn.body.isNone = false ∧ (fn.name == "runtime.NumGoroutine") = false
  nil : ∀ (a : Option Addr) (vb vc : Nat) (vs : List Value) (vcur : Array Value) (VT : TypeId) (w : World), by' ≤ 140737488355328 → vs.length = k → (∀ v ∈ vs, v.oneCell' = true) → w.heap[vb]? = some (.cells vcur VT (0, 0)) → (∀ (j : Nat) v, vs[j]? = some v → vcur[j]? = some v) →
    Calls P f #[.slice a 0 0, .int .i64 0, .slice (some ⟨vb, 0, none⟩) 1 vc] w fun e w' => OutNew k 1 vs w e w'
  row : ∀ (blk n c i vb vc : Nat) (cs vs : List Value) (cur vcur : Array Value) (T VT : TypeId) (w : World), i ≤ n → n ≤ c → 0 < c → (n + 1) * by' ≤ 140737488355328 → cs.length = n * k → vs.length = k → (∀ v ∈ cs, v.oneCell' = true) → (∀ v ∈ vs, v.oneCell' = true) →
    w.heap[blk]? = some (.cells cur T (0, 0)) → c * k ≤ cur.size → (∀ (j : Nat) v, cs[j]? = some v → cur[j]? = some v) → w.heap[vb]? = some (.cells vcur VT (0, 0)) → (∀ (j : Nat) v, vs[j]? = some v → vcur[j]? = some v) → vb ≠ blk →
    Calls P f #[.slice (some ⟨blk, 0, none⟩) n c, .int .i64 i, .slice (some ⟨vb, 0, none⟩) 1 vc] w fun e w' => OutIn blk c cur.size (n + 1) (cs.take (i * k) ++ vs ++ cs.drop (i * k)) w e w' ∨ OutNew k (n + 1) (cs.take (i * k) ++ vs ++ cs.drop (i * k)) w e w'

structure DelOk (P : Program) (f : FuncId) (k : Nat) : Prop where
  fn : ∃ fn, P.funcs[f]? = some fn ∧ fn.body.isNone = false ∧ (fn.name == "runtime.NumGoroutine") = false
  row : ∀ (blk n c i : Nat) (cs : List Value) (cur : Array Value) (T : TypeId) (w : World), i < n → n ≤ c → n ≤ 4611686018427387904 → cs.length = n * k → (∀ v ∈ cs, v.oneCell' = true) →
    w.heap[blk]? = some (.cells cur T (0, 0)) → c * k ≤ cur.size → (∀ (j : Nat) v, cs[j]? = some v → cur[j]? = some v) →
    Calls P f #[.slice (some ⟨blk, 0, none⟩) n c, .int .i64 i, .int .i64 ((i : Int) + 1)] w fun e w' => OutIn blk c cur.size (n - 1) (cs.take (i * k) ++ cs.drop ((i + 1) * k)) w e w'

theorem ins_atL {α : Type} {cs vs : List α} {o : Nat} (ho : o ≤ cs.length) (j : Nat) : (cs.take o ++ vs ++ cs.drop o)[j]? = if j < o then cs[j]? else if j < o + vs.length then vs[j - o]? else cs[j - vs.length]? := by
  by_cases h1 : j < o
  · rw [if_pos h1, List.append_assoc, List.getElem?_append_left (by simp; omega), List.getElem?_take, if_pos h1]
  · rw [if_neg h1]
    by_cases h2 : j < o + vs.length
    · rw [if_pos h2, List.append_assoc, List.getElem?_append_right (by simp; omega), List.getElem?_append_left (by simp; omega)]
      congr 1; simp; omega
    · rw [if_neg h2, List.getElem?_append_right (by simp; omega), List.getElem?_drop]
      congr 1; simp; omega
/-- A row of cells, taken apart. -/
theorem ins_cells {k : Nat} {es : List (List D)} {e : List D} {i : Nat} {cs vs : List Value} {cur : Array Value} {A : Nat → Prop} {w : World} (hi : i ≤ es.length) (hsz : ∀ x, x ∈ es → x.length = k) (hel : e.length = k) (hcl : cs.length = es.length * k) (hvl : vs.length = k)
    (hc : ∀ (i j : Nat) x d u, es[i]? = some x → x[j]? = some d → cs[i * k + j]? = some u → Rc A w d u) (hv : ∀ (j : Nat) d u, e[j]? = some d → vs[j]? = some u → Rc A w d u)
    (hL : ∀ (j : Nat) v, (cs.take (i * k) ++ vs ++ cs.drop (i * k))[j]? = some v → cur[j]? = some v) :
    ∀ (i' j : Nat) x d u, (es.take i ++ [e] ++ es.drop i)[i']? = some x → x[j]? = some d → cur[i' * k + j]? = some u → Rc A w d u := by
  intro i' j x d u hx hd hu
  have hik : i * k ≤ cs.length := by rw [hcl]; exact Nat.mul_le_mul_right _ hi
  have hmem : x ∈ es.take i ++ [e] ++ es.drop i := List.mem_of_getElem? hx
  have hxl : x.length = k := by
    simp only [List.mem_append, List.mem_singleton] at hmem
    rcases hmem with (h | h) | h
    · exact hsz x (List.mem_of_mem_take h)
    · rw [h]; exact hel
    · exact hsz x (List.mem_of_mem_drop h)
  have hj : j < k := by
    have := (List.getElem?_eq_some_iff.1 hd).1; omega
  have hil : i' < es.length + 1 := by
    have := (List.getElem?_eq_some_iff.1 hx).1
    simp at this; omega
  have hlen : (cs.take (i * k) ++ vs ++ cs.drop (i * k)).length = (es.length + 1) * k := by
    simp only [List.length_append, List.length_take, List.length_drop, hcl, hvl, Nat.add_mul, Nat.one_mul]; rw [hcl] at hik; omega
  have hpos : i' * k + j < (es.length + 1) * k := by
    have : (i' + 1) * k ≤ (es.length + 1) * k := Nat.mul_le_mul_right _ hil
    rw [Nat.add_mul] at this; omega
  have hg := hL (i' * k + j) _ (List.getElem?_eq_getElem (by rw [hlen]; exact hpos))
  rw [hu] at hg
  have hg' : (cs.take (i * k) ++ vs ++ cs.drop (i * k))[i' * k + j]? = some u := by rw [List.getElem?_eq_getElem (by rw [hlen]; exact hpos)]; exact hg.symm
  rw [ins_atL hik] at hg'
  rw [ins_atL hi] at hx
  by_cases h1 : i' < i
  · have hlt : i' * k + j < i * k := by
      have : (i' + 1) * k ≤ i * k := Nat.mul_le_mul_right _ h1
      rw [Nat.add_mul] at this; omega
    rw [if_pos h1] at hx
    rw [if_pos hlt] at hg'
    exact hc i' j x d u hx hd hg'
  · rw [if_neg h1] at hx
    have hge : i * k ≤ i' * k := Nat.mul_le_mul_right _ (by omega)
    rw [if_neg (by omega)] at hg'
    by_cases h2 : i' = i
    · subst h2
      rw [if_pos (by simp)] at hx
      simp at hx; subst hx
      rw [if_pos (by omega)] at hg'
      rw [Nat.add_sub_cancel_left] at hg'
      exact hv j d u hd hg'
    · have hge2 : (i + 1) * k ≤ i' * k := Nat.mul_le_mul_right _ (by omega)
      rw [Nat.add_mul] at hge2
      rw [if_neg (by simp; omega)] at hx
      rw [if_neg (by omega)] at hg'
      have e1 : i' * k + j - vs.length = (i' - 1) * k + j := by
        rw [hvl, Nat.sub_mul]; omega
      rw [e1] at hg'
      exact hc (i' - 1) j x d u (by simpa using hx) hd hg'
theorem alloc_setRow (w : World) (c c' : Array Value) (T : TypeId) : (w.alloc (.cells c T)).setRow w.heap.size c' = w.alloc (.cells c' T) := by
  show { w with heap := (w.heap.push (.cells c T)).modify w.heap.size _ } = { w with heap := w.heap.push (.cells c' T) }
  congr 1
  apply Array.ext_getElem?
  intro i
  simp only [Array.getElem?_modify, Array.getElem?_push]
  by_cases hi : i = w.heap.size
  · subst hi; simp
  · rw [if_neg (Ne.symm hi), if_neg hi]; simp [hi]
end Go.Abs

/- The abstract machine: slices.Insert and slices.Delete of one element. -/
set_option linter.unusedVariables false
set_option linter.unusedSimpArgs false
namespace Go.Abs
open Go

/-- The elements' cells of a row. -/
theorem row_cells {g A w gi} {k : Nat} {es : List (List D)} {ex : Bool} (h : EntOk g A w gi (.row k es ex)) (hlv : gi.live = true) (hk : 0 < k) : ∃ cc T, w.heap[gi.blk]? = some (.cells cc T (0, 0)) ∧ gi.cap ≤ cc.size ∧ (cc.toList.take (es.length * k)).length = es.length * k ∧
    (∀ (j : Nat) v, (cc.toList.take (es.length * k))[j]? = some v → cc[j]? = some v) ∧ (∀ (i j : Nat) x d u, es[i]? = some x → x[j]? = some d → (cc.toList.take (es.length * k))[i * k + j]? = some u → Rc A w d u) ∧
    ∀ v, v ∈ cc.toList.take (es.length * k) → v.oneCell' = true := by
  obtain ⟨h0, hl, h2, h3, hzz, hA⟩ := h
  obtain ⟨_, cc, T, h4, h5, h6⟩ := hA hlv
  have hget : ∀ (j : Nat) v, (cc.toList.take (es.length * k))[j]? = some v → cc[j]? = some v := fun j v hj => by
    rw [List.getElem?_take] at hj
    split at hj
    · simpa using hj
    · cases hj
  refine ⟨cc, T, h4, h5, by simp; omega, hget, fun i j x d u hx hd hu => h6 i j x d u hx hd (hget _ _ hu), fun v hv => ?_⟩
  obtain ⟨j, hj, rfl⟩ := List.getElem_of_mem hv
  have hjl : j < es.length * k := by simp at hj; omega
  have hi : j / k < es.length := (Nat.div_lt_iff_lt_mul hk).2 hjl
  have hm : j % k < k := Nat.mod_lt _ hk
  have hx := List.getElem?_eq_getElem hi
  have hxl := h2 _ (List.getElem_mem hi)
  have hd := List.getElem?_eq_getElem (l := es[j / k]) (i := j % k) (by omega)
  have hjj : j / k * k + j % k = j := by rw [Nat.mul_comm]; exact Nat.div_add_mod j k
  exact (h6 (j / k) (j % k) _ _ _ hx hd (by rw [hjj]; exact hget j _ (List.getElem?_eq_getElem hj))).one

theorem drewN_same {F : Fr} {g M w} (hM : MemOk F g M w) (q : Nat) : MemOk F g M (w.drewN q) ∧ Le g (Ok F g M w) w g (Ok F g M (w.drewN q)) (w.drewN q) :=
  hM.same (w' := w.drewN q) rfl rfl rfl rfl (Nat.le_add_right _ _)

/-- A new block that bears the list. -/
theorem outNew_ok {F : Fr} {g M w nx} (hM : MemOk F g M w) {fid : Nat} (hf : M fid = none) {k : Nat} {es : List (List D)} {L : List Value} {e : Ending} {w' : World} (ho : OutNew k es.length L w e w') (hsz : ∀ x, x ∈ es → x.length = k)
    (hr : ∀ (cur : Array Value), (∀ (j : Nat) v, L[j]? = some v → cur[j]? = some v) → ∀ (i j : Nat) x d u, es[i]? = some x → x[j]? = some d → cur[i * k + j]? = some u → Rc (Ok F g M w) w d u)
    (hx : nx (.row fid) (upd M fid (some (.row k es true)))) : ∃ r, e = .returned r ∧ SR F g M w nx r w' := by
  obtain ⟨q, cur, T, cap, h1, h2, rfl, rfl, h3⟩ := ho
  obtain ⟨d1, d2⟩ := drewN_same hM q
  refine ⟨_, rfl, SR.then d1 d2 ?_⟩
  exact new_row d1 hf cur T k (cap * k) es h2 (Nat.mul_le_mul_right _ h1) hsz (fun i j x d u a b c => (hr cur h3 i j x d u a b c).mono d2.A) cap h1 (Nat.le_refl _) nx hx
/-- The same block. -/
theorem outIn_ok {F : Fr} {g M w nx} (hM : MemOk F g M w) {id fid : Nat} {k : Nat} {es0 es : List (List D)} (hm : M id = some (.row k es0 true)) (hnp : F.np ≤ id) (hf : M fid = none) {gi : GI} (hg : g id = some gi) (hlv : gi.live = true)
    {cc : Array Value} {T : TypeId} (hb : w.heap[gi.blk]? = some (.cells cc T (0, 0))) {c : Nat} (hcc : c * gi.sz ≤ gi.cap) (hcs : gi.cap ≤ cc.size) (h0 : gi.sz = k) {L : List Value} {e : Ending} {w' : World} (ho : OutIn gi.blk c cc.size es.length L w e w') (hsz : ∀ x, x ∈ es → x.length = k)
    (hr : ∀ (cur : Array Value), (∀ (j : Nat) v, L[j]? = some v → cur[j]? = some v) → ∀ (i j : Nat) x d u, es[i]? = some x → x[j]? = some d → cur[i * k + j]? = some u → Rc (Ok F g M w) w d u)
    (hx : nx (.row fid) (upd (upd M id (some .dead)) fid (some (.row k es true)))) : ∃ r, e = .returned r ∧ SR F g M w nx r w' := by
  obtain ⟨q, cur, h1, h2, rfl, rfl, h3⟩ := ho
  have hb' : (w.drewN q).heap[gi.blk]? = some (.cells cc T (0, 0)) := hb
  obtain ⟨k1, k2⟩ := hM.move (e' := .row k es true) (gi' := { gi with len := es.length }) (w' := (w.drewN q).setRow gi.blk cur) hm rfl hg hlv hnp hf rfl (fun b hb => setRow_other (w.drewN q) _ _ _ hb) (by simp [World.setRow, World.drewN]) rfl rfl rfl (fun hL => by
    refine ⟨h0, rfl, hsz, ?_, fun h => by simp [hlv] at h, fun _ => ⟨fun h => by simp at h, cur, T, setRow_heap (w.drewN q) _ cc cur T (0, 0) hb', by rw [h1]; exact hcs, fun i j x d u a b cx => (hr cur h3 i j x d u a b cx).mono hL.A⟩⟩
    have : es.length * k ≤ c * k := Nat.mul_le_mul_right _ h2
    rw [h0] at hcc; simp only; omega) (Nat.le_add_right _ _)
  refine ⟨_, rfl, _, _, _, hx, k1, k2, .c _ _ ?_⟩
  exact Tc.row fid { gi with len := es.length } _ c (by simp) h2 hcc (.inr rfl)

theorem ins_ok {P : Program} {f : FuncId} {k by' : Nat} (hI : InsOk P f k by') {F : Fr} {g M w nx} (hM : MemOk F g M w) {x y : D} {u v : Value} {i : Int} {fid : Nat} (hx : Tv g (Ok F g M w) w x u) (hy : Tv g (Ok F g M w) w y v) (h : semIns F.np k by' x i y M fid nx) :
    Calls P f #[u, .int .i64 i, v] w fun e w' => ∃ r, e = .returned r ∧ SR F g M w nx r w' := by
  unfold semIns at h
  split at h
  · rename_i idv
    split at h
    · rename_i k' e ex hmv
      obtain ⟨rfl, hk, hf, h⟩ := h
      cases hy.cell rfl with
      | c _ _ hr => cases hr
      | row _ giv av cv hgv hlv hcv hav =>
        obtain ⟨giv', hgv', hEv⟩ := hM.ent idv _ hmv
        rw [hgv] at hgv'; cases hgv'
        have hlen1 : giv.len = 1 := by simpa using hEv.2.1
        have hel : e.length = k' := hEv.2.2.1 e (by simp)
        have hliv : giv.live = true := by
          cases hl : giv.live with
          | true => rfl
          | false => have := (hEv.2.2.2.2.1 hl).1; simp at this
        obtain ⟨vcc, VT, v1, v2, v3, v4, v5, v6⟩ := row_cells hEv hliv hk
        simp only [List.length_singleton, Nat.one_mul] at v3 v4 v5 v6
        have hvR : ∀ (j : Nat) d u, e[j]? = some d → (vcc.toList.take k')[j]? = some u → Rc (Ok F g M w) w d u := fun j d u a b => v5 0 j e d u rfl a (by simpa using b)
        have hav' := hav.resolve_left (by omega)
        subst hav'
        rw [hlen1]
        split at h
        · obtain ⟨rfl, hb, hn⟩ := h
          cases hx.cell rfl with
          | c _ _ hr => cases hr with
            | nils =>
              refine (hI.nil none giv.blk cv _ vcc VT w hb v3 v6 v1 v4).mono fun e' w' ho => ?_
              exact outNew_ok (es := [e]) hM hf ho (by simp [hel]) (fun cur hc i j x d u a b cx => by
                cases i with
                | zero =>
                  simp at a; subst a
                  simp only [Nat.zero_mul, Nat.zero_add] at cx
                  have hjk : j < k' := by have := (List.getElem?_eq_some_iff.1 b).1; omega
                  have hg := hc j _ (List.getElem?_eq_getElem (by omega))
                  rw [cx] at hg
                  exact hvR j d u b (by rw [List.getElem?_eq_getElem (by omega)]; exact hg.symm)
                | succ i => simp at a) hn
        · rename_i id
          obtain ⟨hne, hnp, h⟩ := h
          split at h
          · rename_i sz es hm
            obtain ⟨rfl, ⟨hi0, hi⟩, hb, hn⟩ := h
            obtain ⟨m, rfl⟩ := Int.eq_ofNat_of_zero_le hi0
            simp only [Int.toNat_natCast] at hn
            have hi : m ≤ es.length := by omega
            cases hx.cell rfl with
            | c _ _ hr => cases hr
            | row _ gi a c hg hlc hcc ha =>
              obtain ⟨gi', hg', hE⟩ := hM.ent id _ hm
              rw [hg] at hg'; cases hg'
              have hl := hE.2.1
              have h0 := hE.1
              have hsz := hE.2.2.1
              obtain ⟨kM, kL⟩ := hM.kill hm
              have hfid : fid ≠ id := fun hh => by subst hh; simp [hf] at hm
              have hf' : upd M id (some Ent.dead) fid = none := by simp [upd, hfid, hf]
              have hsz' : ∀ x, x ∈ es.take m ++ [e] ++ es.drop m → x.length = sz := fun x hx => by
                simp only [List.mem_append, List.mem_singleton] at hx
                rcases hx with (h | h) | h
                · exact hsz x (List.mem_of_mem_take h)
                · rw [h]; exact hel
                · exact hsz x (List.mem_of_mem_drop h)
              have hlen' : (es.take m ++ [e] ++ es.drop m).length = es.length + 1 := by simp; omega
              rw [hl]
              by_cases hc0 : c = 0
              · subst hc0
                have he0 : es = [] := List.length_eq_zero_iff.1 (by omega)
                subst he0
                have hm0 : m = 0 := by simpa using hi
                subst hm0
                refine (hI.nil a giv.blk cv _ vcc VT w (by simpa using hb) v3 v6 v1 v4).mono fun e' w' ho => ?_
                obtain ⟨r, hr1, hr2⟩ := outNew_ok (es := [] ++ [e] ++ []) kM hf' (nx := nx) ho hsz' (fun cur hc => ins_cells (es := []) (cs := []) (i := 0) (Nat.le_refl _) (by simp) hel (by simp) v3 (by simp) (fun j d u a b => (hvR j d u a b).mono kL.A) (by simpa using hc)) hn
                exact ⟨r, hr1, SR.then kM kL hr2⟩
              · have ha' := ha.resolve_left hc0
                subst ha'
                have hlive : gi.live = true := by
                  cases hl : gi.live with
                  | true => rfl
                  | false =>
                    have := (hE.2.2.2.2.1 hl).2
                    have : 0 < c * gi.sz := Nat.mul_pos (by omega) (by omega)
                    omega
                obtain ⟨cc, T, c1, c2, c3, c4, c5, c6⟩ := row_cells hE hlive hk
                have hblk : giv.blk ≠ gi.blk := by
                  cases ex with
                  | true => exact fun hh => hM.inj idv id _ _ giv gi (Ne.symm hne) hmv hm rfl rfl hgv hg hliv hlive hh
                  | false => exact fun hh => ((hEv.2.2.2.2.2 hliv).1 rfl).2.2 id _ gi hm rfl hg hlive hh.symm
                have hlc' : es.length ≤ c := by omega
                refine (hI.row gi.blk es.length c m giv.blk cv _ _ cc vcc T VT w hi hlc' (by omega) hb c3 v3 c6 v6 c1 (by rw [← h0]; omega) c4 v1 v4 hblk).mono fun e' w' ho => ?_
                rcases ho with ho | ho
                · rw [← hlen'] at ho
                  exact outIn_ok hM hm hnp hf hg hlive c1 hcc c2 h0 ho hsz' (fun cur hc => ins_cells hi hsz hel c3 v3 c5 hvR hc) hn
                · rw [← hlen'] at ho
                  obtain ⟨r, hr1, hr2⟩ := outNew_ok kM hf' (nx := nx) ho hsz' (fun cur hc => ins_cells hi hsz hel c3 v3 (fun i j x d u a b cx => (c5 i j x d u a b cx).mono kL.A) (fun j d u a b => (hvR j d u a b).mono kL.A) hc) hn
                  exact ⟨r, hr1, SR.then kM kL hr2⟩
          · exact h.elim
        · exact h.elim
    · exact h.elim
  · exact h.elim

theorem del_atL {α : Type} {cs : List α} {o p : Nat} (ho : o ≤ cs.length) (hp : o ≤ p) (j : Nat) : (cs.take o ++ cs.drop p)[j]? = if j < o then cs[j]? else cs[j - o + p]? := by
  by_cases h1 : j < o
  · rw [if_pos h1, List.getElem?_append_left (by simp; omega), List.getElem?_take, if_pos h1]
  · rw [if_neg h1, List.getElem?_append_right (by simp; omega), List.getElem?_drop]
    congr 1; simp; omega
theorem del_cells {k : Nat} {es : List (List D)} {i : Nat} {cs : List Value} {cur : Array Value} {A : Nat → Prop} {w : World} (hi : i < es.length) (hsz : ∀ x, x ∈ es → x.length = k) (hcl : cs.length = es.length * k)
    (hc : ∀ (i j : Nat) x d u, es[i]? = some x → x[j]? = some d → cs[i * k + j]? = some u → Rc A w d u)
    (hL : ∀ (j : Nat) v, (cs.take (i * k) ++ cs.drop ((i + 1) * k))[j]? = some v → cur[j]? = some v) :
    ∀ (i' j : Nat) x d u, (es.take i ++ es.drop (i + 1))[i']? = some x → x[j]? = some d → cur[i' * k + j]? = some u → Rc A w d u := by
  intro i' j x d u hx hd hu
  have hik : i * k ≤ cs.length := by rw [hcl]; exact Nat.mul_le_mul_right _ (by omega)
  have hik2 : i * k ≤ (i + 1) * k := Nat.mul_le_mul_right _ (by omega)
  have hmem : x ∈ es.take i ++ es.drop (i + 1) := List.mem_of_getElem? hx
  have hxl : x.length = k := by
    rcases List.mem_append.1 hmem with h | h
    · exact hsz x (List.mem_of_mem_take h)
    · exact hsz x (List.mem_of_mem_drop h)
  have hj : j < k := by
    have := (List.getElem?_eq_some_iff.1 hd).1; omega
  have hil : i' + 1 < es.length + 1 := by
    have := (List.getElem?_eq_some_iff.1 hx).1
    simp at this; omega
  rw [del_atL (by omega) (by omega)] at hx
  by_cases h1 : i' < i
  · rw [if_pos h1] at hx
    have hlt : i' * k + j < i * k := by
      have : (i' + 1) * k ≤ i * k := Nat.mul_le_mul_right _ h1
      rw [Nat.add_mul] at this; omega
    have hg := hL (i' * k + j) cs[i' * k + j] (by rw [del_atL hik hik2, if_pos hlt, List.getElem?_eq_getElem])
    rw [hu] at hg
    exact hc i' j x d u hx hd (by rw [List.getElem?_eq_getElem (by omega)]; exact hg.symm)
  · rw [if_neg h1] at hx
    have e0 : i' - i + (i + 1) = i' + 1 := by omega
    rw [e0] at hx
    have hil2 : i' + 1 < es.length := (List.getElem?_eq_some_iff.1 hx).1
    have hge : i * k ≤ i' * k := Nat.mul_le_mul_right _ (by omega)
    have hpos : (i' + 1) * k + j < cs.length := by
      rw [hcl]
      have : (i' + 1 + 1) * k ≤ es.length * k := Nat.mul_le_mul_right _ hil2
      rw [Nat.add_mul (i' + 1)] at this; omega
    have e1 : i' * k + j - i * k + (i + 1) * k = (i' + 1) * k + j := by
      rw [Nat.add_mul, Nat.add_mul]; omega
    have hg := hL (i' * k + j) cs[(i' + 1) * k + j] (by rw [del_atL hik hik2, if_neg (by omega), e1, List.getElem?_eq_getElem])
    rw [hu] at hg
    exact hc (i' + 1) j x d u hx hd (by rw [List.getElem?_eq_getElem hpos]; exact hg.symm)

theorem del_ok {P : Program} {f : FuncId} {k : Nat} (hI : DelOk P f k) {F : Fr} {g M w nx} (hM : MemOk F g M w) {x : D} {u : Value} {i j : Int} {fid : Nat} (hx : Tv g (Ok F g M w) w x u) (h : semDel F.np k x i j M fid nx) :
    Calls P f #[u, .int .i64 i, .int .i64 j] w fun e w' => ∃ r, e = .returned r ∧ SR F g M w nx r w' := by
  unfold semDel at h
  split at h
  · rename_i id
    split at h
    · rename_i sz es hm
      obtain ⟨rfl, hk, hnp, hf, hbig, rfl, ⟨hi0, hi⟩, hn⟩ := h
      obtain ⟨m, rfl⟩ := Int.eq_ofNat_of_zero_le hi0
      simp only [Int.toNat_natCast] at hn
      have hi : m < es.length := by omega
      cases hx.cell rfl with
      | c _ _ hr => cases hr
      | row _ gi a c hg hlc hcc ha =>
        obtain ⟨gi', hg', hE⟩ := hM.ent id _ hm
        rw [hg] at hg'; cases hg'
        have hl := hE.2.1
        have h0 := hE.1
        have hsz := hE.2.2.1
        have hsz' : ∀ x, x ∈ es.take m ++ es.drop (m + 1) → x.length = sz := fun x hx => by
          rcases List.mem_append.1 hx with h | h
          · exact hsz x (List.mem_of_mem_take h)
          · exact hsz x (List.mem_of_mem_drop h)
        have hlen' : (es.take m ++ es.drop (m + 1)).length = es.length - 1 := by simp; omega
        rw [hl]
        have ha' := ha.resolve_left (by omega)
        subst ha'
        have hlive : gi.live = true := by
          cases hl : gi.live with
          | true => rfl
          | false =>
            have := (hE.2.2.2.2.1 hl).1
            subst this; simp at hi
        obtain ⟨cc, T, c1, c2, c3, c4, c5, c6⟩ := row_cells hE hlive hk
        refine (hI.row gi.blk es.length c m _ cc T w hi (by omega) hbig c3 c6 c1 (by rw [← h0]; omega) c4).mono fun e' w' ho => ?_
        rw [← hlen'] at ho
        exact outIn_ok hM hm hnp hf hg hlive c1 hcc c2 h0 ho hsz' (fun cur hc => del_cells hi hsz c3 c5 hc) hn
    · exact h.elim
  · exact h.elim
end Go.Abs

/- The abstract machine, tenth part, continued: calls. -/
set_option linter.unusedVariables false
set_option linter.unusedSimpArgs false
namespace Go.Abs
open Go

def KOk (P : Program) (K : Kt) : Prop := ∀ f c, K f = some c → match c.srt with
  | none => CallOk P f c
  | some (.srt k ag) => SortOk P f k ag
  | some (.ins k by') => InsOk P f k by'
  | some (.del k) => DelOk P f k

theorem call_ok {P : Program} {K : Kt} (hK : KOk P K) {F : Fr} {g M w nx} (hM : MemOk F g M w) {f : FuncId} {ds : List D} {vs : List Value} {fid : Nat} (hl : vs.length = ds.length)
    (hr : ∀ (i : Nat) d u, ds[i]? = some d → vs[i]? = some u → Tv g (Ok F g M w) w d u) (h : semCall K F.np f ds M fid nx) :
    (callFunc f vs.toArray).run P w = .ok (.enter f vs.toArray) w ∧ Calls P f vs.toArray w fun e w' => ∃ v, e = .returned v ∧ SR F g M w nx v w' := by
  unfold semCall at h
  split at h
  · rename_i c hc
    have ok := hK f c hc
    have enter : (∃ fn, P.funcs[f]? = some fn ∧ fn.body.isNone = false ∧ (fn.name == "runtime.NumGoroutine") = false) → (callFunc f vs.toArray).run P w = .ok (.enter f vs.toArray) w := by
      rintro ⟨fn, h1, h2, h3⟩
      simp only [callFunc, Sem.run_bind, run_program, Result.andThen_ok, h1, h3, h2, Bool.false_eq_true, if_false, Sem.run_pure]
    split at h
    · rename_i k ag hs
      rw [hs] at ok
      simp only at ok
      refine ⟨enter ok.fn, ?_⟩
      split at h
      · rename_i x cmp
        match vs, hl with
        | [u, v], _ =>
          exact sort_ok (fun g c h1 h2 => by have := hK g c h1; rw [h2] at this; exact this) ok hM (hr 0 x u rfl rfl) (hr 1 cmp v rfl rfl) h
      · exact h.elim
    · rename_i k by' hs
      rw [hs] at ok
      simp only at ok
      refine ⟨enter ok.fn, ?_⟩
      split at h
      · rename_i x i y
        match vs, hl with
        | [u, v0, v], _ =>
          have h1 := hr 1 _ v0 rfl rfl
          cases h1.cell rfl with
          | c _ _ hc => cases hc with
            | v => exact ins_ok ok hM (hr 0 x u rfl rfl) (hr 2 y v rfl rfl) h
      · exact h.elim
    · rename_i k hs
      rw [hs] at ok
      simp only at ok
      refine ⟨enter ok.fn, ?_⟩
      split at h
      · rename_i x i j
        match vs, hl with
        | [u, v0, v1], _ =>
          have h1 := hr 1 _ v0 rfl rfl
          have h2 := hr 2 _ v1 rfl rfl
          cases h1.cell rfl with
          | c _ _ hc => cases hc with
            | v => cases h2.cell rfl with
              | c _ _ hc => cases hc with
                | v => exact del_ok ok hM (hr 0 x u rfl rfl) h
      · exact h.elim
    · rename_i hs
      rw [hs] at ok
      simp only at ok
      refine ⟨enter ok.fn, ?_⟩
      split at h
      · rename_i hcl
        obtain ⟨a, ha, hp, hn⟩ := h
        refine (ok.calls a hp w (fun b => b < w.heap.size) [] vs (argsV_ok hM (fun b hb => hb.1) (fun b hb => hb) ds _ vs ha hl hr) List.nodup_nil (by simp) (fun b hb => hb)).mono ?_
        rintro e w' ⟨v, r, rfl, hpost, hR⟩
        obtain ⟨hfree, hnx⟩ := hn r hpost
        have hio : r.io = [] := by
          obtain ⟨_, _, _, _, _, _, _, _, h, _⟩ := hR.ret
          simpa using h
        refine ⟨v, rfl, after_call (ids := []) hM hR List.nodup_nil rfl (by simp) (.inr ⟨ok.clean hcl a r hp hpost, hio⟩) hfree ?_⟩
        rw [hio]; exact hnx
      · obtain ⟨hnd, a, ha, hp, hn⟩ := h
        obtain ⟨f1, f2⟩ := frzA_ok ds hM
        obtain ⟨io, k1, k2, k3⟩ := argsF_ok f1 c.kinds ds _ vs ha hl (fun i d u hd hu => (hr i d u hd hu).mono f2)
        have hioM : ∀ b, b ∈ io → ∃ (k : Nat) (id : Nat) (cs : List D) (gi : GI), (ioIds c.kinds ds)[k]? = some id ∧ io[k]? = some b ∧ frzA F.np M ds id = some (.cells cs) ∧ g id = some gi ∧ gi.blk = b := by
          intro b hb
          obtain ⟨k, hk⟩ := List.getElem?_of_mem hb
          have hlt : k < io.length := by
            rcases Nat.lt_or_ge k io.length with h | h
            · exact h
            · simp [List.getElem?_eq_none h] at hk
          have hki : (ioIds c.kinds ds)[k]? = some (ioIds c.kinds ds)[k] := List.getElem?_eq_getElem (by omega)
          obtain ⟨cs, gi, q1, q2, q3⟩ := k3 k _ b hki hk
          exact ⟨k, _, cs, gi, hki, hk, q1, q2, q3⟩
        have hlive : ∀ {id : Nat} {cs : List D} {gi : GI}, frzA F.np M ds id = some (.cells cs) → g id = some gi → gi.live = true := by
          intro id cs gi hm hg
          obtain ⟨gi', hg', hE⟩ := f1.ent id _ hm
          rw [hg] at hg'; cases hg'
          exact hE.1
        refine (ok.calls a hp w (Ok F g (frzA F.np M ds) w) io vs k1 ?_ (fun b hb => ?_) (fun b hb => hb.1)).mono ?_
        · refine List.pairwise_iff_getElem.2 fun i j hi hj hij he => ?_
          obtain ⟨cs, gi, q1, q2, q3⟩ := k3 i _ _ (List.getElem?_eq_getElem (by omega)) (List.getElem?_eq_getElem hi)
          obtain ⟨cs', gi', r1, r2, r3⟩ := k3 j _ _ (List.getElem?_eq_getElem (by omega)) (List.getElem?_eq_getElem hj)
          have hne := List.pairwise_iff_getElem.1 hnd i j (by omega) (by omega) hij
          have := f1.inj _ _ _ _ gi gi' hne q1 r1 rfl rfl q2 r2 (hlive q1 q2) (hlive r1 r2)
          rw [q3, r3] at this
          exact this he
        · obtain ⟨k, id, cs, gi, _, _, q1, q2, q3⟩ := hioM b hb
          have := f1.lo id _ gi q1 rfl q2 (hlive q1 q2)
          rw [q3] at this
          exact ⟨this.1, fun hok => hok.2.2 id _ gi q1 rfl q2 (hlive q1 q2) q3⟩
        rintro e w' ⟨v, r, rfl, hpost, hR⟩
        obtain ⟨hfree, hnx⟩ := hn r hpost
        have := after_call (ids := ioIds c.kinds ds) f1 hR hnd k2.symm (fun k id b h1 h2 => k3 k id b h1 h2) (.inl fun b hb => hb) (fun j hj => frzA_none ds (hfree j hj)) hnx
        exact ⟨v, rfl, SR.then f1 f2 this⟩
  · exact h.elim

end Go.Abs

/- The abstract machine: '==' of structs and arrays of cells. -/
set_option linter.unusedVariables false
set_option linter.unusedSimpArgs false
namespace Go.Abs
open Go

theorem eqCells_v : ∀ {ds es : List D} {b : Bool}, eqCells ds es = some b → (∀ d, d ∈ ds → ∃ x, d = .v x) ∧ (∀ d, d ∈ es → ∃ x, d = .v x)
  | [], [], b, _ => ⟨by simp, by simp⟩
  | d :: ds, e :: es, b, h => by
    have key : ∃ x y t, d = .v x ∧ e = .v y ∧ eqCells ds es = some t := by
      unfold eqCells at h
      split at h
      · rename_i hh; simp at hh
      · rename_i h1 h2; cases h1; cases h2
        split at h
        · obtain ⟨t, ht, _⟩ := Option.map_eq_some_iff.1 h; exact ⟨_, _, t, rfl, rfl, ht⟩
        · simp at h
      · rename_i h1 h2; cases h1; cases h2
        obtain ⟨t, ht, _⟩ := Option.map_eq_some_iff.1 h; exact ⟨_, _, t, rfl, rfl, ht⟩
      · rename_i h1 h2; cases h1; cases h2
        obtain ⟨t, ht, _⟩ := Option.map_eq_some_iff.1 h; exact ⟨_, _, t, rfl, rfl, ht⟩
      · simp at h
    obtain ⟨x, y, t, rfl, rfl, ht⟩ := key
    obtain ⟨a, b⟩ := eqCells_v ht
    exact ⟨fun d hd => by rcases List.mem_cons.1 hd with rfl | h; exact ⟨_, rfl⟩; exact a d h, fun d hd => by rcases List.mem_cons.1 hd with rfl | h; exact ⟨_, rfl⟩; exact b d h⟩
  | [], _ :: _, b, h => by simp [eqCells] at h
  | _ :: _, [], b, h => by simp [eqCells] at h

theorem agg_map_v {g A w} {ds : List D} {us : Array Value} (hl : us.size = ds.length) (hr : ∀ (i : Nat) d u, ds[i]? = some d → us[i]? = some u → Tc g A w d u) (hv : ∀ d, d ∈ ds → ∃ x, d = .v x) : us.toList.map D.v = ds := by
  apply List.ext_getElem?
  intro i
  rcases Nat.lt_or_ge i ds.length with h | h
  · obtain ⟨x, hx⟩ := hv ds[i] (List.getElem_mem h)
    have hi : i < us.size := by omega
    have := hr i ds[i] us[i] (List.getElem?_eq_getElem h) (Array.getElem?_eq_getElem hi)
    rw [hx] at this
    have he : us[i] = x := by
      cases this with | c _ _ h => cases h with | v => rfl
    rw [List.getElem?_eq_getElem h, hx]
    simp [hi, he]
  · rw [List.getElem?_eq_none h, List.getElem?_eq_none (by simp; omega)]

/-- What kind of cell: int 0, bool 1, string 2. -/
def kdD : D → Nat
  | .v (.int _ _) => 0
  | .v (.bool _) => 1
  | .v (.string _) => 2
  | _ => 3
def bkT (P : Program) (t : TypeId) : Option Nat :=
  match P.underlying t with
  | some (.int _) => some 0
  | some .bool => some 1
  | some .string => some 2
  | _ => none
def ckF (P : Program) : List Field → Nat → Option (List Nat)
  | [], _ => some []
  | f :: l, off => match bkT P f.type, ckF P l (off + 1) with
    | some k, some ks => if f.name != "_" && f.offset == off then some (k :: ks) else none
    | _, _ => none
/-- The kinds of the cells of a type that is a struct, or an array, of plain cells. -/
def ckT (P : Program) (t : TypeId) : Option (List Nat) :=
  if P.eqGuardType P.depth t then none else
  match P.underlying t with
  | some (.struct fs) => if P.stoodInHeld t then none else ckF P fs.toList 0
  | some (.array n e) => match bkT P e, szT P e with
    | some k, some 1 => some (List.replicate n k)
    | _, _ => none
  | _ => none
def ckOk (P : Program) (t : TypeId) (ds es : List D) : Prop :=
  match ckT P t with
  | some ks => ds.map kdD = ks ∧ es.map kdD = ks
  | none => False

section
variable {P : Program}

theorem bkT_ag {t : TypeId} {k : Nat} (h : bkT P t = some k) : agT P t = some false := by
  unfold bkT at h; unfold agT
  split at h <;> simp_all

theorem run_part1 {t : TypeId} {k : Nat} (h : bkT P t = some k) {xs : Array Value} {off : Nat} {u : Value} (hu : xs[off]? = some u) (w : World) : (part t xs off).run P w = .ok u w := by
  simp [part, run_isAgg' (bkT_ag h), hu]

theorem run_equalIn_cell' {t : TypeId} {k : Nat} (h : bkT P t = some k) {x y : Value} (hx : kdD (.v x) = k) (hy : kdD (.v y) = k) {b : Bool} (he : eqCells [.v x] [.v y] = some b) (d : Nat) (w : World) : (Op.equalIn (d + 1) t x y).run P w = .ok b w := by
  unfold bkT at h
  split at h <;> simp only [Option.some.injEq, reduceCtorEq] at h <;> subst h
  · rename_i kk hu
    cases x <;> simp [kdD] at hx
    cases y <;> simp [kdD] at hy
    simp only [eqCells] at he
    split at he
    · rename_i hk; subst hk
      simp at he; subst he
      exact run_equalIn_int w d t _ kk _ _ hu
    · simp at he
  · rename_i hu
    cases x <;> simp [kdD] at hx
    cases y <;> simp [kdD] at hy
    simp [eqCells] at he; subst he
    exact run_equalIn_bool' w d t _ _ hu
  · rename_i hu
    cases x <;> simp [kdD] at hx
    cases y <;> simp [kdD] at hy
    simp [eqCells] at he; subst he
    rw [run_equalIn_string w d t _ _ hu, beq_toListBytes]

theorem eqCells_cons {d e : D} {ds es : List D} {b : Bool} (h : eqCells (d :: ds) (e :: es) = some b) : ∃ x y b1 b2, d = .v x ∧ e = .v y ∧ eqCells [.v x] [.v y] = some b1 ∧ eqCells ds es = some b2 ∧ b = (b1 && b2) := by
  unfold eqCells at h
  split at h
  · rename_i hh; simp at hh
  · rename_i h1 h2; cases h1; cases h2
    split at h
    · rename_i hk; subst hk; obtain ⟨t, ht, rfl⟩ := Option.map_eq_some_iff.1 h; exact ⟨_, _, _, t, rfl, rfl, by simp [eqCells], ht, rfl⟩
    · simp at h
  · rename_i h1 h2; cases h1; cases h2
    obtain ⟨t, ht, rfl⟩ := Option.map_eq_some_iff.1 h; exact ⟨_, _, _, t, rfl, rfl, by simp [eqCells], ht, rfl⟩
  · rename_i h1 h2; cases h1; cases h2
    obtain ⟨t, ht, rfl⟩ := Option.map_eq_some_iff.1 h; exact ⟨_, _, _, t, rfl, rfl, by simp [eqCells], ht, rfl⟩
  · simp at h

theorem run_eqFields {xs ys : Array Value} (d : Nat) (w : World) : ∀ (fs : List Field) (off : Nat) (ks : List Nat) (ds es : List D) (b : Bool), ckF P fs off = some ks → ds.map kdD = ks → es.map kdD = ks →
    (xs.toList.drop off).map D.v = ds → (ys.toList.drop off).map D.v = es → eqCells ds es = some b → (Op.eqFields (d + 1) xs ys fs).run P w = .ok b w
  | [], off, ks, ds, es, b, hk, hd, he, _, _, hb => by
    simp only [ckF, Option.some.injEq] at hk; subst hk
    have e1 : ds = [] := by simpa using hd
    have e2 : es = [] := by simpa using he
    subst e1; subst e2
    simp [eqCells] at hb; subst hb
    simp [Op.eqFields]
  | f :: fs, off, ks, ds, es, b, hk, hd, he, hxs, hys, hb => by
    simp only [ckF] at hk
    split at hk
    · rename_i k ks' h1 h2
      split at hk
      · rename_i hn
        simp only [Bool.and_eq_true, bne_iff_ne, ne_eq, beq_iff_eq] at hn
        cases hk
        cases ds with
        | nil => simp at hd
        | cons d0 ds =>
          cases es with
          | nil => simp at he
          | cons e0 es =>
            simp only [List.map_cons, List.cons.injEq] at hd he
            obtain ⟨x, y, b1, b2, rfl, rfl, hb1, hb2, rfl⟩ := eqCells_cons hb
            have hx0 : xs[off]? = some x := by
              have := congrArg (·[0]?) hxs
              simp only [List.getElem?_map, List.getElem?_drop, Nat.add_zero, List.getElem?_cons_zero, Array.getElem?_toList] at this
              obtain ⟨q, hq, hqe⟩ := Option.map_eq_some_iff.1 this
              cases hqe; exact hq
            have hy0 : ys[off]? = some y := by
              have := congrArg (·[0]?) hys
              simp only [List.getElem?_map, List.getElem?_drop, Nat.add_zero, List.getElem?_cons_zero, Array.getElem?_toList] at this
              obtain ⟨q, hq, hqe⟩ := Option.map_eq_some_iff.1 this
              cases hqe; exact hq
            have tl : ∀ {zs : Array Value} {z : Value} {l : List D}, (zs.toList.drop off).map D.v = .v z :: l → (zs.toList.drop (off + 1)).map D.v = l := by
              intro zs z l h
              have := congrArg List.tail h
              simpa [List.map_drop] using this
            have ih := run_eqFields d w fs (off + 1) ks' ds es b2 h2 hd.2 he.2 (tl hxs) (tl hys) hb2
            have hp1 := run_part1 h1 hx0 w
            have hp2 := run_part1 h1 hy0 w
            have hq := run_equalIn_cell' h1 hd.1 he.1 hb1 d w
            simp only [Op.eqFields, ne_eq, hn.1, not_false_eq_true, if_true, hn.2, Sem.run_bind, hp1, hp2, hq, Result.andThen_ok, Sem.run_ite]
            cases b1 with
            | false => simp
            | true => simp [ih]
      · cases hk
    · cases hk

theorem run_eqItems' {xs ys : Array Value} {e : TypeId} {k : Nat} (hk : bkT P e = some k) (d : Nat) (w : World) : ∀ (m off : Nat) (ds es : List D) (b : Bool), ds.map kdD = List.replicate m k → es.map kdD = List.replicate m k →
    (xs.toList.drop off).map D.v = ds → (ys.toList.drop off).map D.v = es → eqCells ds es = some b → (Op.eqItems (d + 1) e 1 xs ys (List.range' off m)).run P w = .ok b w
  | 0, off, ds, es, b, hd, he, _, _, hb => by
    have e1 : ds = [] := by simpa using hd
    have e2 : es = [] := by simpa using he
    subst e1; subst e2
    simp [eqCells] at hb; subst hb
    simp [Op.eqItems]
  | m + 1, off, ds, es, b, hd, he, hxs, hys, hb => by
    cases ds with
    | nil => simp [List.replicate_succ] at hd
    | cons d0 ds =>
      cases es with
      | nil => simp [List.replicate_succ] at he
      | cons e0 es =>
        simp only [List.replicate_succ, List.map_cons, List.cons.injEq] at hd he
        obtain ⟨x, y, b1, b2, rfl, rfl, hb1, hb2, rfl⟩ := eqCells_cons hb
        have hx0 : xs[off]? = some x := by
          have := congrArg (·[0]?) hxs
          simp only [List.getElem?_map, List.getElem?_drop, Nat.add_zero, List.getElem?_cons_zero, Array.getElem?_toList] at this
          obtain ⟨q, hq, hqe⟩ := Option.map_eq_some_iff.1 this
          cases hqe; exact hq
        have hy0 : ys[off]? = some y := by
          have := congrArg (·[0]?) hys
          simp only [List.getElem?_map, List.getElem?_drop, Nat.add_zero, List.getElem?_cons_zero, Array.getElem?_toList] at this
          obtain ⟨q, hq, hqe⟩ := Option.map_eq_some_iff.1 this
          cases hqe; exact hq
        have tl : ∀ {zs : Array Value} {z : Value} {l : List D}, (zs.toList.drop off).map D.v = .v z :: l → (zs.toList.drop (off + 1)).map D.v = l := by
          intro zs z l h
          have := congrArg List.tail h
          simpa [List.map_drop] using this
        have ih := run_eqItems' hk d w m (off + 1) ds es b2 hd.2 he.2 (tl hxs) (tl hys) hb2
        have hp1 := run_part1 hk hx0 w
        have hp2 := run_part1 hk hy0 w
        have hq := run_equalIn_cell' hk hd.1 he.1 hb1 d w
        simp only [List.range'_succ, Op.eqItems, Nat.mul_one, Sem.run_bind, hp1, hp2, hq, Result.andThen_ok, Sem.run_ite]
        cases b1 with
        | false => simp
        | true => simp [ih]

theorem run_equal_agg {t : TypeId} {xs ys : Array Value} {ds es : List D} {b : Bool} (hc : ckOk P t ds es) (hx : xs.toList.map D.v = ds) (hy : ys.toList.map D.v = es) (hb : eqCells ds es = some b) (d : Nat) (w : World) :
    (Op.equalIn (d + 2) t (.agg xs) (.agg ys)).run P w = .ok b w := by
  unfold ckOk at hc
  split at hc
  · rename_i ks hk
    unfold ckT at hk
    split at hk
    · cases hk
    · split at hk
      · rename_i fs hf
        split at hk
        · cases hk
        · rename_i hst
          have hff : P.fieldsOf t = fs := by simp [Program.fieldsOf, hf]
          rw [run_equalIn_struct w (d + 1) t xs ys (by rw [hff]; exact hf) (by simpa using hst), hff]
          exact run_eqFields d w _ 0 ks ds es b hk hc.1 hc.2 (by simpa using hx) (by simpa using hy) hb
      · rename_i n e hf
        split at hk
        · rename_i k hk1 hsz
          cases hk
          unfold szT at hsz
          obtain ⟨i, hi, hs⟩ := Option.map_eq_some_iff.1 hsz
          have hco : P.cellsOf e = 1 := by simp [Program.cellsOf, hi, hs]
          rw [run_equalIn_array w (d + 1) xs ys hf hi, hco, List.range_eq_range']
          exact run_eqItems' hk1 d w n 0 ds es b hc.1 hc.2 (by simpa using hx) (by simpa using hy) hb
        · cases hk
      · cases hk
  · exact hc.elim

/-- .. of structs in structs. -/
def ckNF (P : Program) (rec : TypeId → Option (List Nat)) : List Field → Nat → Option (List Nat)
  | [], _ => some []
  | f :: l, off => match rec f.type with
    | some k => match ckNF P rec l (off + k.length) with
      | some ks => if f.name != "_" && f.offset == off && szT P f.type == some k.length then some (k ++ ks) else none
      | none => none
    | none => none
def ckN (P : Program) : Nat → TypeId → Option (List Nat)
  | 0, _ => none
  | n + 1, t => match bkT P t with
    | some k => some [k]
    | none => match P.underlying t with
      | some (.struct fs) => if P.stoodInHeld t then none else ckNF P (ckN P n) fs.toList 0
      | some (.array _ _) => ckT P t
      | _ => none
def ckNT (P : Program) (t : TypeId) : Option (List Nat) := if P.eqGuardType P.depth t then none else match bkT P t with | some _ => none | none => ckN P 8 t
def eqOk (P : Program) (t : TypeId) (ds es : List D) : Prop :=
  match ckNT P t with
  | some ks => ds.map kdD = ks ∧ es.map kdD = ks
  | none => False
def VR (P : Program) (t : TypeId) (v : Value) (ds : List D) : Prop := (bkT P t ≠ none ∧ ds = [.v v]) ∨ (bkT P t = none ∧ ∃ xs, v = .agg xs ∧ xs.toList.map D.v = ds)

theorem eqCells_split : ∀ (k : Nat) {ds es : List D} {b : Bool}, eqCells ds es = some b → ∃ b1 b2, eqCells (ds.take k) (es.take k) = some b1 ∧ eqCells (ds.drop k) (es.drop k) = some b2 ∧ b = (b1 && b2)
  | 0, ds, es, b, h => ⟨true, b, rfl, by simpa using h, by simp⟩
  | k + 1, [], [], b, h => ⟨true, b, rfl, by simpa using h, by simp⟩
  | k + 1, [], _ :: _, b, h => by simp [eqCells] at h
  | k + 1, _ :: _, [], b, h => by simp [eqCells] at h
  | k + 1, d :: ds, e :: es, b, h => by
    obtain ⟨x, y, b1, b2, rfl, rfl, h1, h2, rfl⟩ := eqCells_cons h
    obtain ⟨c1, c2, h3, h4, rfl⟩ := eqCells_split k h2
    refine ⟨b1 && c1, c2, ?_, by simpa using h4, by rw [Bool.and_assoc]⟩
    simp only [List.take_succ_cons]
    cases x <;> cases y <;> simp only [eqCells] at h1 ⊢ <;> (try cases h1)
    all_goals first
      | (split at h1
         · rename_i hk
           simp at h1; subst h1; simp [h3, hk]
         · cases h1)
      | simp [h3]

theorem run_partN {t : TypeId} {xs : Array Value} {off : Nat} {ks : List Nat} {ds : List D} {n : Nat} (hk : ckN P n t = some ks) (hs : szT P t = some ks.length) (hx : (xs.toList.drop off).map D.v = ds) (hd : ks.length ≤ ds.length) (w : World) :
    ∃ u, (part t xs off).run P w = .ok u w ∧ VR P t u (ds.take ks.length) := by
  cases n with
  | zero => simp [ckN] at hk
  | succ n =>
    cases hb : bkT P t with
    | some k =>
      simp only [ckN, hb, Option.some.injEq] at hk
      subst hk
      cases ds with
      | nil => simp at hd
      | cons d ds =>
        have h0 := congrArg (·[0]?) hx
        simp only [List.getElem?_map, List.getElem?_drop, Nat.add_zero, List.getElem?_cons_zero, Array.getElem?_toList] at h0
        obtain ⟨q, hq, hqe⟩ := Option.map_eq_some_iff.1 h0
        subst hqe
        exact ⟨q, run_part1 hb hq w, .inl ⟨by rw [hb]; simp, by simp⟩⟩
    | none =>
      have hag : agT P t = some true := by
        simp only [ckN, hb] at hk
        unfold agT
        split at hk
        · rename_i h; rw [h]; rfl
        · rename_i h; rw [h]; rfl
        · cases hk
      refine ⟨.agg (xs.extract off (off + ks.length)), by simp [part, run_isAgg' hag, run_sizeOf' hs], .inr ⟨hb, _, rfl, ?_⟩⟩
      rw [← hx, ← List.map_take]
      congr 1
      simp [Array.toList_extract, List.extract_eq_take_drop]

theorem run_eqN : ∀ (n : Nat) (t : TypeId) (ks : List Nat) (x y : Value) (ds es : List D) (b : Bool) (d : Nat) (w : World), ckN P n t = some ks → VR P t x ds → VR P t y es → ds.map kdD = ks → es.map kdD = ks → eqCells ds es = some b →
    (Op.equalIn (d + n + 1) t x y).run P w = .ok b w
  | 0, t, ks, x, y, ds, es, b, d, w, h, _, _, _, _, _ => by simp [ckN] at h
  | n + 1, t, ks, x, y, ds, es, b, d, w, h, hx, hy, hd, he, hb => by
    cases hk : bkT P t with
    | some k =>
      simp only [ckN, hk, Option.some.injEq] at h; subst h
      rcases hx with ⟨-, rfl⟩ | ⟨h, -⟩
      · rcases hy with ⟨-, rfl⟩ | ⟨h, -⟩
        · exact run_equalIn_cell' hk (by simpa using hd) (by simpa using he) hb _ w
        · rw [hk] at h; cases h
      · rw [hk] at h; cases h
    | none =>
      simp only [ckN, hk] at h
      rcases hx with ⟨h', -⟩ | ⟨-, xs, rfl, hxs⟩
      · exact absurd hk h'
      rcases hy with ⟨h', -⟩ | ⟨-, ys, rfl, hys⟩
      · exact absurd hk h'
      split at h
      · rename_i fs hf
        split at h
        · cases h
        · rename_i hst
          have hff : P.fieldsOf t = fs := by simp [Program.fieldsOf, hf]
          rw [run_equalIn_struct w (d + (n + 1)) t xs ys (by rw [hff]; exact hf) (by simpa using hst), hff]
          have key : ∀ (l : List Field) (off : Nat) (ks : List Nat) (ds es : List D) (b : Bool), ckNF P (ckN P n) l off = some ks → ds.map kdD = ks → es.map kdD = ks →
              (xs.toList.drop off).map D.v = ds → (ys.toList.drop off).map D.v = es → eqCells ds es = some b → (Op.eqFields (d + n + 1) xs ys l).run P w = .ok b w := by
            intro l
            induction l with
            | nil =>
              intro off ks ds es b hk hd he _ _ hb
              simp only [ckNF, Option.some.injEq] at hk; subst hk
              have e1 : ds = [] := by simpa using hd
              have e2 : es = [] := by simpa using he
              subst e1; subst e2
              simp [eqCells] at hb; subst hb
              simp [Op.eqFields]
            | cons f l ih =>
              intro off ks ds es b hk hd he hxs hys hb
              simp only [ckNF] at hk
              split at hk
              · rename_i k1 h1
                split at hk
                · rename_i k2 h2
                  split at hk
                  · rename_i hn
                    simp only [Bool.and_eq_true, bne_iff_ne, ne_eq, beq_iff_eq] at hn
                    cases hk
                    obtain ⟨b1, b2, hb1, hb2, rfl⟩ := eqCells_split k1.length hb
                    have ld : k1.length ≤ ds.length := by have := congrArg List.length hd; simp at this; omega
                    have le : k1.length ≤ es.length := by have := congrArg List.length he; simp at this; omega
                    obtain ⟨u, hu, hu'⟩ := run_partN h1 hn.2 hxs ld w
                    obtain ⟨v, hv, hv'⟩ := run_partN h1 hn.2 hys le w
                    have q := run_eqN n f.type k1 u v _ _ b1 d w h1 hu' hv' (by rw [List.map_take, hd]; simp) (by rw [List.map_take, he]; simp) hb1
                    have r := ih (off + k1.length) k2 (ds.drop k1.length) (es.drop k1.length) b2 h2 (by rw [List.map_drop, hd]; simp) (by rw [List.map_drop, he]; simp) (by rw [← hxs, ← List.map_drop, List.drop_drop]) (by rw [← hys, ← List.map_drop, List.drop_drop]) hb2
                    simp only [Op.eqFields, ne_eq, hn.1.1, not_false_eq_true, if_true, hn.1.2, Sem.run_bind, hu, hv, q, Result.andThen_ok, Sem.run_ite]
                    cases b1 with
                    | false => simp
                    | true => simp [r]
                  · cases hk
                · cases hk
              · cases hk
          exact key fs.toList 0 ks ds es b h hd he (by simpa using hxs) (by simpa using hys) hb
      · exact run_equal_agg (P := P) (t := t) (by unfold ckOk; rw [h]; exact ⟨hd, he⟩) hxs hys hb (d + n) w
      · cases h

theorem eqOk_guard {t : TypeId} {ds es : List D} (hc : eqOk P t ds es) : P.eqGuardType P.depth t = false := by
  unfold eqOk ckNT at hc
  split at hc
  · rename_i hk
    split at hk
    · cases hk
    · rename_i h; simpa using h
  · exact hc.elim
theorem bin_aggN {t : TypeId} {op : BinOp} {xo yo : Operand} {xs ys : Array Value} {ds es : List D} {b : Bool} (ho : op = .eql ∨ op = .neq) (hc : eqOk P t ds es) (hx : xs.toList.map D.v = ds) (hy : ys.toList.map D.v = es) (hb : eqCells ds es = some b) (w : World) :
    (do eqGuard op t xo yo (.agg xs) (.agg ys); binOp op t (.agg xs) (.agg ys) : Sem Value).run P w = .ok (.bool (if op = .eql then b else !b)) w := by
  simp only [Sem.run_bind, run_eqGuard_agg w op t xo yo xs ys (eqOk_guard hc), Result.andThen_ok]
  have this : (Op.equalIn 10000 t (.agg xs) (.agg ys)).run P w = .ok b w := by
    unfold eqOk at hc
    split at hc
    · rename_i ks hk
      unfold ckNT at hk
      split at hk
      · cases hk
      · split at hk
        · cases hk
        rename_i hbk
        exact run_eqN 8 t ks _ _ ds es b 9991 w hk (.inr ⟨hbk, _, rfl, hx⟩) (.inr ⟨hbk, _, rfl, hy⟩) hc.1 hc.2 hb
    · exact hc.elim
  rcases ho with rfl | rfl
  · rw [run_eql_struct]; simp [this]
  · rw [run_neq_struct]; simp [this]

theorem ckOk_guard {t : TypeId} {ds es : List D} (hc : ckOk P t ds es) : P.eqGuardType P.depth t = false := by
  unfold ckOk ckT at hc
  split at hc
  · rename_i hk
    split at hk
    · cases hk
    · rename_i h; simpa using h
  · exact hc.elim

theorem bin_agg {t : TypeId} {op : BinOp} {xo yo : Operand} {xs ys : Array Value} {ds es : List D} {b : Bool} (ho : op = .eql ∨ op = .neq) (hc : ckOk P t ds es) (hx : xs.toList.map D.v = ds) (hy : ys.toList.map D.v = es) (hb : eqCells ds es = some b) (w : World) :
    (do eqGuard op t xo yo (.agg xs) (.agg ys); binOp op t (.agg xs) (.agg ys) : Sem Value).run P w = .ok (.bool (if op = .eql then b else !b)) w := by
  simp only [Sem.run_bind, run_eqGuard_agg w op t xo yo xs ys (ckOk_guard hc), Result.andThen_ok]
  have := run_equal_agg hc hx hy hb 9998 w
  rcases ho with rfl | rfl
  · rw [run_eql_struct, this]; simp
  · rw [run_neq_struct, this]; simp

theorem run_checkKey1 {e : TypeId} {k : Nat} (hk : bkT P e = some k) (em : Bool) (n : Nat) (v : Value) (hv : kdD (.v v) = k) (w : World) : (Instr.checkKey em (n + 1) e v).run P w = .ok () w := by
  unfold bkT at hk
  split at hk <;> simp only [Option.some.injEq, reduceCtorEq] at hk <;> subst hk <;> rename_i hu
  · cases v <;> simp [kdD] at hv; simp [Instr.checkKey, run_underlying hu]
  · cases v <;> simp [kdD] at hv; simp [Instr.checkKey, run_underlying hu]
  · cases v <;> simp [kdD] at hv; simp [Instr.checkKey, run_underlying hu]

theorem get_of_map {xs : Array Value} {off : Nat} {ds : List D} {d : D} (h : (xs.toList.drop off).map D.v = d :: ds) : ∃ x, d = .v x ∧ xs[off]? = some x ∧ (xs.toList.drop (off + 1)).map D.v = ds := by
  have h0 := congrArg (·[0]?) h
  simp only [List.getElem?_map, List.getElem?_drop, Nat.add_zero, List.getElem?_cons_zero, Array.getElem?_toList] at h0
  obtain ⟨q, hq, hqe⟩ := Option.map_eq_some_iff.1 h0
  refine ⟨q, hqe.symm, hq, ?_⟩
  have := congrArg List.tail h
  simpa [List.map_drop] using this

/-- A key can be looked for. -/
theorem run_check_agg {t : TypeId} {xs : Array Value} {ds : List D} (hc : ckOk P t ds ds) (hx : xs.toList.map D.v = ds) (em : Bool) (m : Nat) (w : World) : (Instr.checkKey em (m + 2) t (.agg xs)).run P w = .ok () w := by
  unfold ckOk at hc
  split at hc
  · rename_i ks hk
    obtain ⟨hc, _⟩ := hc
    unfold ckT at hk
    split at hk
    · cases hk
    · split at hk
      · rename_i fs hu
        split at hk
        · cases hk
        · rw [Instr.checkKey]
          simp only [Sem.run_bind, run_underlying hu, Result.andThen_ok]
          rw [← Array.forIn_toList]
          have hx' : (xs.toList.drop 0).map D.v = ds := by simpa using hx
          generalize fs.toList = l at hk
          generalize 0 = off at hk hx'
          clear hx
          induction l generalizing off ks ds with
          | nil => simp
          | cons f l ih =>
            simp only [ckF] at hk
            split at hk
            · rename_i k ks' h1 h2
              split at hk
              · rename_i hn
                simp only [Bool.and_eq_true, bne_iff_ne, ne_eq, beq_iff_eq] at hn
                cases hk
                cases ds with
                | nil => simp at hc
                | cons d0 ds =>
                  simp only [List.map_cons, List.cons.injEq] at hc
                  obtain ⟨x, rfl, hx0, htl⟩ := get_of_map hx'
                  have p1 := run_part1 h1 hx0 w
                  have p2 := run_checkKey1 h1 em m x hc.1 w
                  simp only [List.forIn_cons, Sem.run_bind, Sem.run_ite, ne_eq, hn.1, not_false_eq_true, if_true, hn.2, p1, p2, Result.andThen_ok, Sem.run_pure]
                  exact ih _ hc.2 hc.2 (off + 1) h2 htl
              · cases hk
            · cases hk
      · rename_i n e hu
        split at hk
        · rename_i k hk1 hsz
          cases hk
          unfold szT at hsz
          obtain ⟨i, hi, hs⟩ := Option.map_eq_some_iff.1 hsz
          have hco : P.cellsOf e = 1 := by simp [Program.cellsOf, hi, hs]
          rw [Instr.checkKey]
          simp only [Sem.run_bind, run_underlying hu, Result.andThen_ok]
          simp only [Std.Legacy.Range.forIn_eq_forIn_range', Std.Legacy.Range.size, Nat.sub_zero, Nat.add_one_sub_one, Nat.div_one]
          have hx' : (xs.toList.drop 0).map D.v = ds := by simpa using hx
          clear hx hu
          generalize 0 = off at hx'
          induction n generalizing off ds with
          | zero => simp
          | succ n ih =>
            cases ds with
            | nil => simp [List.replicate_succ] at hc
            | cons d0 ds =>
              simp only [List.replicate_succ, List.map_cons, List.cons.injEq] at hc
              obtain ⟨x, rfl, hx0, htl⟩ := get_of_map hx'
              have p1 := run_part1 hk1 hx0 w
              have p2 := run_checkKey1 hk1 em m x hc.1 w
              simp only [List.range'_succ, List.forIn_cons, Sem.run_bind, run_sizeOf w hi, hco, Nat.mul_one, Result.andThen_ok, p1, p2, Sem.run_pure]
              exact ih hc.2 hc.2 (off + 1) htl
        · cases hk
      · cases hk
  · exact hc.elim

theorem ckOk_wide {t : TypeId} {ds es : List D} (hc : ckOk P t ds es) : (match P.underlying t with | some (.array _ _) | some (.struct _) => true | _ => false) = true := by
  unfold ckOk ckT at hc
  split at hc
  · rename_i hk
    split at hk
    · cases hk
    · split at hk <;> simp_all
  · exact hc.elim
end
end Go.Abs

/- The abstract machine: maps. -/
set_option linter.unusedVariables false
set_option linter.unusedSimpArgs false
namespace Go.Abs
open Go Go.ChangeMaps

/-- Where the parts of a struct, or of an array, lie. -/
def plT (P : Program) (t : TypeId) : Option (List (Nat × Nat)) := match P.underlying t with
  | some (.struct fs) => fs.toList.mapM (fun f => (szT P f.type).map fun n => (f.offset, n))
  | some (.array n e) => (szT P e).map fun k => (List.range n).map fun i => (i * k, k)
  | _ => none
def semBuildT (P : Program) (t : TypeId) (parts : List (Nat × D)) (M : Mem) (nx : D → Mem → Prop) : Prop :=
  parts.all (fun p => (cellsD p.2).all isCell) = true ∧
  match zc P t, plT P t with
  | some zs, some pl => zs.all isCell = true ∧ match fillD (fun i => pl[i]?) zs parts with
    | some cs => nx (.agg cs) M
    | none => False
  | _, _ => False
theorem fillD_mono {f g : Nat → Option (Nat × Nat)} (h : ∀ i p, f i = some p → g i = some p) : ∀ (parts : List (Nat × D)) (cs cs' : List D), fillD f cs parts = some cs' → fillD g cs parts = some cs'
  | [], _, _, hh => hh
  | (i, d) :: l, cs, cs', hh => by
    simp only [fillD] at hh ⊢
    cases hf : f i with
    | none => rw [hf] at hh; cases hh
    | some p =>
      rw [hf] at hh; rw [h i p hf]
      simp only at hh ⊢
      split at hh
      · rename_i hc; rw [if_pos hc]; exact fillD_mono h l _ _ hh
      · cases hh
theorem semBuildT_imp {P : Program} {t : TypeId} {parts : List (Nat × D)} {M : Mem} {nx : D → Mem → Prop} (h : semBuildT P t parts M nx) : semBuild' P t parts M nx := by
  obtain ⟨h0, h⟩ := h
  refine ⟨h0, ?_⟩
  split at h
  · rename_i zs pl hz hp
    obtain ⟨h1, h⟩ := h
    rw [hz]
    refine ⟨h1, ?_⟩
    split at h
    · rename_i cs hcs
      unfold plT at hp
      split at hp
      · rename_i fs hu
        simp only [hu, hp, hcs]; exact h
      · rename_i n e hu
        obtain ⟨k, hk, rfl⟩ := Option.map_eq_some_iff.1 hp
        have := fillD_mono (g := fun i => some (i * k, k)) (fun i p hi => by
          simp only [List.getElem?_map] at hi
          obtain ⟨j, hj, rfl⟩ := Option.map_eq_some_iff.1 hi
          have hl : i < n := by
            rcases Nat.lt_or_ge i n with h | h
            · exact h
            · rw [List.getElem?_eq_none (by simpa using h)] at hj; cases hj
          rw [List.getElem?_range hl] at hj
          cases hj; rfl) parts zs cs hcs
        simp only [hu, hk, this]; exact h
      · cases hp
    · exact h.elim
  · exact h.elim

def kvT (P : Program) (t : TypeId) : Option (TypeId × TypeId) := match P.underlying t with | some (.map k e) => some (k, e) | _ => none
/-- A type's zero value. -/
def zD (P : Program) (t : TypeId) : Option D := (P.info? t).bind fun i => i.zero.map constD

/-- Where a key stands. -/
def findK : List (D × D) → D → Nat → Option (Option (Nat × D))
  | [], _, _ => some none
  | (.agg es, v) :: l, .agg ds, i => match eqCells ds es with
    | some true => some (some (i, v))
    | some false => findK l (.agg ds) (i + 1)
    | none => none
  | _, _, _ => none
def setK (kvs : List (D × D)) (k v : D) : Option (List (D × D)) :=
  match findK kvs k 0 with
  | some (some (i, _)) => some (kvs.set i (k, v))
  | some none => some (kvs ++ [(k, v)])
  | none => none
def keyOk (P : Program) (t : TypeId) : D → Prop
  | .agg ds => ckOk P t ds ds
  | _ => False

def semMakeMap (M : Mem) (fid : Nat) (nx : D → Mem → Prop) : Prop := M fid = none ∧ nx (.mp fid) (upd M fid (some (.map [] true)))
def okD (ok : Bool) (v : D) (b : Bool) : D := if ok then .tup [v, .v (.bool b)] else v
def semLookup0 (P : Program) (t : TypeId) (m k : D) (ok : Bool) (M : Mem) (nx : D → Mem → Prop) : Prop :=
  match m, kvT P t with
  | .mp id, some (kt, et) => keyOk P kt k ∧ match M id with
    | some (.map kvs _) => match findK kvs k 0 with
      | some (some (_, v)) => nx (okD ok v true) M
      | some none => match zD P et with
        | some z => (cellsD z).all isCell = true ∧ nx (okD ok z false) M
        | none => False
      | none => False
    | _ => False
  | _, _ => False
def semMapUpdate0 (P : Program) (np : Nat) (t : TypeId) (m k v : D) (M : Mem) (nx : D → Mem → Prop) : Prop :=
  match m, kvT P t with
  | .mp id, some (kt, et) => keyOk P kt k ∧ match frz np M v id, fz (frz np M v) false 1 v with
    | some (.map kvs true), some v' => match setK kvs k v' with
      | some kvs' => nx .junk (upd (frz np M v) id (some (.map kvs' true)))
      | none => False
    | _, _ => False
  | _, _ => False
def semLookupR (P : Program) (t : TypeId) (kvs : List (D × Nat)) (k : D) (ok : Bool) (M : Mem) (nx : D → Mem → Prop) : Prop :=
  match kvT P t with
  | some (kt, et) => keyOk P kt k ∧ match findK (rows kvs) k 0 with
    | some (some (_, v)) => nx (okD ok v true) M
    | some none => match zD P et with
      | some z => (cellsD z).all isCell = true ∧ nx (okD ok z false) M
      | none => False
    | none => False
  | none => False
def setR (kvs : List (D × Nat)) (k : D) (rid : Nat) : Option (List (D × Nat)) :=
  match findK (rows kvs) k 0 with
  | some (some (i, _)) => some (kvs.set i (k, rid))
  | some none => some (kvs ++ [(k, rid)])
  | none => none
def semMapR (P : Program) (t : TypeId) (id : Nat) (kvs : List (D × Nat)) (k : D) (rid : Nat) (M : Mem) (nx : D → Mem → Prop) : Prop :=
  match kvT P t with
  | some (kt, et) => keyOk P kt k ∧ match setR kvs k rid with
    | some kvs' => nx .junk (upd M id (some (.rmap kvs')))
    | none => False
  | none => False
def semLookup (P : Program) (t : TypeId) (m k : D) (ok : Bool) (M : Mem) (nx : D → Mem → Prop) : Prop :=
  match m with
  | .mp id => match M id with
    | some (.rmap kvs) => semLookupR P t kvs k ok M nx
    | _ => semLookup0 P t (.mp id) k ok M nx
  | _ => False
def semMapUpdate (P : Program) (np : Nat) (t : TypeId) (m k v : D) (M : Mem) (nx : D → Mem → Prop) : Prop :=
  match m with
  | .mp id => match M id with
    | some (.rmap kvs) => match v with
      | .row rid => semMapR P t id kvs k rid M nx
      | _ => False
    | _ => semMapUpdate0 P np t (.mp id) k v M nx
  | _ => False
theorem rows_set (kvs : List (D × Nat)) (i : Nat) (k : D) (r : Nat) : rows (kvs.set i (k, r)) = (rows kvs).set i (k, .row r) := by simp [rows, List.map_set]
theorem rows_app (kvs : List (D × Nat)) (k : D) (r : Nat) : rows (kvs ++ [(k, r)]) = rows kvs ++ [(k, .row r)] := by simp [rows]
def semRange (P : Program) (np : Nat) (t : TypeId) (m : D) (M : Mem) (fid : Nat) (nx : D → Mem → Prop) : Prop :=
  match m with
  | .mp id => (kvT P t).isSome = true ∧ M fid = none ∧ np ≤ id ∧ match M id with
    | some (.map kvs _) => nx (.it fid) (upd (upd M id (some (.map kvs false))) fid (some (.iter kvs none)))
    | _ => False
  | _ => False
def semNext (isString : Bool) (it : D) (M : Mem) (nx : D → Mem → Prop) : Prop :=
  match it with
  | .it id => isString = false ∧ match M id with
    | some (.iter left last) => (left = [] → nx (.tup [.v (.bool false)]) M) ∧ ∀ (j : Nat) (k v : D), left[j]? = some (k, v) → nx (.tup [.v (.bool true), k, v]) (upd M id (some (.iter (left.eraseIdx j) (some (k, v)))))
    | _ => False
  | _ => False
def semEntry (it : D) (M : Mem) (nx : D → Mem → Prop) : Prop :=
  match it with
  | .it id => match M id with
    | some (.iter left (some (k, v))) => nx (.tup [k, v]) M
    | _ => False
  | _ => False

theorem constD_ok {g A w} {v : Value} (h : (cellsD (constD v)).all isCell = true) : Tv g A w (constD v) v := by
  have hc : ∀ v : Value, isCell (cellD v) = true → Tv g A w (cellD v) v := fun v h => .c _ _ (.c _ _ (cellD_ok h))
  have hcc : ∀ v : Value, (cellsD (cellD v)).all isCell = true → isCell (cellD v) = true := by
    intro v h
    have : cellsD (cellD v) = [cellD v] := by
      unfold cellD
      split
      · rfl
      · split <;> rfl
    rw [this] at h; simpa using h
  have key : ∀ v : Value, constD v = cellD v → (cellsD (constD v)).all isCell = true → Tv g A w (constD v) v := fun v hv h => by rw [hv] at h ⊢; exact hc v (hcc v h)
  cases v with
  | agg cs =>
    simp only [constD, cellsD] at h
    refine .agg _ _ (by simp) fun i d u hd hu => ?_
    simp only [List.getElem?_map, Array.getElem?_toList] at hd
    rw [hu] at hd
    simp only [Option.map_some, Option.some.injEq] at hd
    subst hd
    refine .c _ _ (cellD_ok ?_)
    rw [List.all_eq_true] at h
    exact h _ (List.mem_map.2 ⟨u, by simpa using Array.mem_of_getElem? hu, rfl⟩)
  | _ => exact key _ rfl h

theorem fzV_ok {F : Fr} {g M w} (hM : MemOk F g M w) {d d' : D} {u : Value} (hv : Tv g (Ok F g M w) w d u) (h1 : fz M false 1 d = some d') : Rv (Ok F g M w) w d' u := by
  cases hv with
  | c _ _ hc => exact .c _ _ (.c _ _ (fz_ok hM (fun _ h => h) (fun h => by simp at h) 1 hc.isCell hc h1))
  | agg cs us hl' hra =>
    simp only [fz] at h1
    split at h1
    · rename_i cs' hcs
      cases h1
      refine .agg _ _ (by rw [hl', mapO_length hcs]) fun i d u hd hu => ?_
      obtain ⟨x, hx1, hx2⟩ := mapO_get hcs hd
      have ht := hra i x u hx1 hu
      exact .c _ _ (fz_ok hM (fun _ h => h) (fun h => by simp at h) 0 ht.isCell ht hx2)
    · simp at h1
  | tup => simp [fz, fz0] at h1
  | junk => simp [fz, fz0] at h1

theorem kdD_v {d : D} {k : Nat} (h : kdD d = k) (hk : k < 3) : ∃ x, d = .v x ∧ plainC d = true := by
  unfold kdD at h
  split at h <;> first | exact ⟨_, rfl, rfl⟩ | omega
theorem ckF_lt {P : Program} : ∀ {fs : List Field} {off : Nat} {ks : List Nat}, ckF P fs off = some ks → ∀ k, k ∈ ks → k < 3
  | [], _, ks, h, k, hk => by simp [ckF] at h; subst h; simp at hk
  | f :: fs, off, ks, h, k, hk => by
    simp only [ckF] at h
    split at h
    · rename_i k0 ks0 h1 h2
      split at h
      · cases h
        rcases List.mem_cons.1 hk with rfl | hk
        · unfold bkT at h1; split at h1 <;> simp at h1 <;> omega
        · exact ckF_lt h2 k hk
      · cases h
    · cases h
theorem ckT_lt {P : Program} {t : TypeId} {ks : List Nat} (h : ckT P t = some ks) : ∀ k, k ∈ ks → k < 3 := by
  intro k hk
  unfold ckT at h
  split at h
  · cases h
  · split at h
    · split at h
      · cases h
      · exact ckF_lt h k hk
    · split at h
      · rename_i k0 h1 _
        cases h
        have := List.eq_of_mem_replicate hk
        subst this
        unfold bkT at h1; split at h1 <;> simp at h1 <;> omega
      · cases h
    · cases h
theorem ckOk_plain {P : Program} {t : TypeId} {ds es : List D} (h : ckOk P t ds es) : ∀ d, d ∈ ds → (∃ x, d = .v x) ∧ plainC d = true := by
  intro d hd
  unfold ckOk at h
  split at h
  · rename_i ks hk
    obtain ⟨x, hx, hp⟩ := kdD_v (d := d) rfl (ckT_lt hk _ (by rw [← h.1]; exact List.mem_map.2 ⟨d, hd, rfl⟩))
    exact ⟨⟨x, hx⟩, hp⟩
  · exact h.elim

theorem eqCells_kd : ∀ {ds es : List D} {b : Bool}, eqCells ds es = some b → es.map kdD = ds.map kdD
  | [], [], _, _ => rfl
  | d :: ds, e :: es, b, h => by
    obtain ⟨x, y, b1, b2, rfl, rfl, h1, h2, _⟩ := eqCells_cons h
    simp only [List.map_cons, eqCells_kd h2, List.cons.injEq, and_true]
    cases x <;> cases y <;> simp_all [eqCells, kdD]
  | [], _ :: _, b, h => by simp [eqCells] at h
  | _ :: _, [], b, h => by simp [eqCells] at h

theorem ckOk_of {P : Program} {t : TypeId} {ds es : List D} {b : Bool} (hc : ckOk P t ds ds) (h : eqCells ds es = some b) : ckOk P t ds es := by
  unfold ckOk at hc ⊢
  cases hk : ckT P t with
  | some ks => rw [hk] at hc; exact ⟨hc.1, by rw [eqCells_kd h]; exact hc.1⟩
  | none => rw [hk] at hc; exact hc.elim

theorem Tv.aggV {g A w} {ds : List D} {u : Value} (h : Tv g A w (.agg ds) u) (hv : ∀ d, d ∈ ds → ∃ x, d = .v x) : ∃ us : Array Value, u = .agg us ∧ us.toList.map D.v = ds := by
  cases h with
  | c _ _ h => cases h with | c _ _ h => cases h
  | agg _ us hl hr => exact ⟨us, rfl, agg_map_v hl hr hv⟩

theorem run_findAsking' {P : Program} {g' : Nat → Option GI} {A : Nat → Prop} {w : World} {kt : TypeId} {ds : List D} {xs : Array Value} (hc : ckOk P kt ds ds) (hx : xs.toList.map D.v = ds) : ∀ (kvs : List (D × D)) (es : List MapEntry) (i : Nat) (r : Option (Nat × D)),
    EntsG g' A w kvs es → findK kvs (.agg ds) i = some r →
    (r = none ∧ (Instr.findAsking kt (.agg xs) es i).run P w = .ok none w) ∨
    ∃ (j : Nat) (v : D) (e : MapEntry) (ks : List D), r = some (i + j, v) ∧ kvs[j]? = some (.agg ks, v) ∧ es[j]? = some e ∧ eqCells ds ks = some true ∧ (Instr.findAsking kt (.agg xs) es i).run P w = .ok (some (i + j, e.val)) w
  | [], es, i, r, hE, h => by
    simp only [findK, Option.some.injEq] at h; subst h
    have : es = [] := List.eq_nil_of_length_eq_zero (by simpa using hE.1)
    subst this
    exact .inl ⟨rfl, by simp [Instr.findAsking]⟩
  | (k', v) :: kvs, [], i, r, hE, h => by have := hE.1; simp at this
  | (k', v) :: kvs, e :: es, i, r, hE, h => by
    obtain ⟨ks, rfl⟩ : ∃ ks, k' = .agg ks := by
      unfold findK at h
      split at h <;> simp_all
    unfold findK at h
    have h0 := (hE.2 0 _ e rfl rfl).1
    have hE' : EntsG g' A w kvs es := ⟨by simpa using hE.1, fun j kv e a b => hE.2 (j + 1) kv e (by simpa using a) (by simpa using b)⟩
    split at h
    · rename_i hb
      cases h
      obtain ⟨us, hu, hus⟩ := h0.aggV (eqCells_v hb).2
      refine .inr ⟨0, v, e, ks, rfl, rfl, rfl, hb, ?_⟩
      have := run_equal_agg (ckOk_of hc hb) hx hus hb 9998 w
      simp only [Instr.findAsking, hu, Sem.run_bind]
      have h2 : (Op.equal kt (.agg xs) (.agg us)).run P w = .ok true w := this
      rw [h2]; simp
    · rename_i hb
      obtain ⟨us, hu, hus⟩ := h0.aggV (eqCells_v hb).2
      have h2 : (Op.equal kt (.agg xs) (.agg us)).run P w = .ok false w := run_equal_agg (ckOk_of hc hb) hx hus hb 9998 w
      have hstep : (Instr.findAsking kt (.agg xs) (e :: es) i).run P w = (Instr.findAsking kt (.agg xs) es (i + 1)).run P w := by
        simp only [Instr.findAsking, hu, Sem.run_bind, h2, Result.andThen_ok]
        simp
      rcases run_findAsking' hc hx kvs es (i + 1) r hE' h with ⟨h3, h4⟩ | ⟨j, v', e', ks', h3, h4, h5, h6, h7⟩
      · exact .inl ⟨h3, by rw [hstep]; exact h4⟩
      · exact .inr ⟨j + 1, v', e', ks', by rw [h3]; congr 2; omega, by simpa using h4, by simpa using h5, h6, by rw [hstep, h7]; congr 3; omega⟩
    · cases h

section
variable {P : Program} {F : Fr} {g : Nat → Option GI} {M : Mem} {w : World} {nx : D → Mem → Prop}

theorem kvT_spec {t k e : TypeId} (h : kvT P t = some (k, e)) : P.underlying t = some (.map k e) := by
  unfold kvT at h; split at h <;> simp_all

theorem makeMap_ok (hM : MemOk F g M w) {t : TypeId} {fid : Nat} (h : semMakeMap M fid nx) : ∃ v w', (Instr.makeMap t none).run P w = .ok v w' ∧ SR F g M w nx v w' := by
  obtain ⟨hf, hn⟩ := h
  obtain ⟨h1, h2⟩ := hM.alloc hf (.map #[] 0) (.map [] true) ⟨w.heap.size, 0, 0, 0, true⟩ rfl
    (fun hL => ⟨rfl, fun h => by simp at h, #[], by simp, by simp, by simp [EntsOk, EntsG]⟩)
  refine ⟨_, _, ?_, _, _, _, hn, h1, h2, .c _ _ (.mp fid ⟨w.heap.size, 0, 0, 0, true⟩ (by simp))⟩
  simp [Instr.makeMap, newObj]; rfl

theorem okD_ok {A : Nat → Prop} {d : D} {u : Value} (ok b : Bool) (h : Tv g A w d u) : Tv g A w (okD ok d b) (if ok then .tuple #[u, .bool b] else u) := by
  cases ok with
  | false => exact h
  | true =>
    refine .tup _ _ rfl fun i d' u' hd hu => ?_
    match i with
    | 0 => simp at hd hu; subst hd; subst hu; exact h
    | 1 => simp at hd hu; subst hd; subst hu; exact .c _ _ (.c _ _ (.v _ rfl))
    | i + 2 => simp at hd

theorem lookup0_ok (hM : MemOk F g M w) {t : TypeId} {m k : D} {u v : Value} {ok : Bool} (hm : Tv g (Ok F g M w) w m u) (hk : Tv g (Ok F g M w) w k v) (h : semLookup0 P t m k ok M nx) :
    ∃ r w', (Instr.lookup t u v ok).run P w = .ok r w' ∧ SR F g M w nx r w' := by
  unfold semLookup0 at h
  split at h
  · rename_i id kt et hkv
    obtain ⟨hko, h⟩ := h
    have hu := kvT_spec hkv
    cases k <;> simp only [keyOk] at hko
    rename_i ds
    split at h
    · rename_i kvs ex hmi
      cases hm.cell rfl with
      | c _ _ hh => cases hh
      | mp _ gi hg =>
        obtain ⟨gi', hg', hlv, hA, es, h4, h5, h6⟩ := hM.ent id _ hmi
        rw [hg] at hg'; cases hg'
        obtain ⟨xs, rfl, hxs⟩ := hk.aggV fun d hd => (ckOk_plain hko d hd).1
        have hch := run_check_agg hko hxs es.isEmpty 9998 w
        have hfk := run_findKey_eq (P := P) w (ckOk_wide hko) (.agg xs) es.toList
        have base : ∀ r, findK kvs (.agg ds) 0 = some r → (r = none ∧ (Instr.findKey kt (.agg xs) es.toList).run P w = .ok none w) ∨
            ∃ (j : Nat) (v : D) (e : MapEntry), r = some (j, v) ∧ Tv g (Ok F g M w) w v e.val ∧ (Instr.findKey kt (.agg xs) es.toList).run P w = .ok (some (j, e.val)) w := by
          intro r hr
          rcases run_findAsking' (P := P) hko hxs kvs es.toList 0 r h6 hr with ⟨h7, h8⟩ | ⟨j, v, e, ks, h7, h8, h9, h10, h11⟩
          · exact .inl ⟨h7, by rw [hfk]; exact h8⟩
          · exact .inr ⟨j, v, e, by simpa using h7, ((h6.2 j _ e h8 h9).2).noId, by rw [hfk, h11]; simp⟩
        split at h
        · rename_i i v hf
          rcases base _ hf with ⟨h7, _⟩ | ⟨j, v', e, h7, h8, h9⟩
          · cases h7
          · simp only [Option.some.injEq, Prod.mk.injEq] at h7
            obtain ⟨rfl, rfl⟩ := h7
            refine ⟨_, w, by simp [Instr.lookup, run_underlying hu, MapKept.run_getObj_map h4, hch, h9], SR.plain hM h (okD_ok ok true h8)⟩
        · rename_i hf
          split at h
          · rename_i z hz
            rcases base _ hf with ⟨_, h8⟩ | ⟨j, v', e, h7, _⟩
            · obtain ⟨i, hi, hzz⟩ := Option.bind_eq_some_iff.1 hz
              obtain ⟨zv, hzv, rfl⟩ := Option.map_eq_some_iff.1 hzz
              refine ⟨_, w, by simp [Instr.lookup, run_underlying hu, MapKept.run_getObj_map h4, hch, h8, run_zeroValue hi hzv], SR.plain hM h.2 (okD_ok ok false (constD_ok h.1))⟩
            · cases h7
          · exact h.elim
        · exact h.elim
    · exact h.elim
  · exact h.elim

theorem lookupR_ok (hM : MemOk F g M w) {t : TypeId} {id : Nat} {kvs : List (D × Nat)} {k : D} {u v : Value} {ok : Bool} (hmi : M id = some (.rmap kvs)) (hm : Tv g (Ok F g M w) w (.mp id) u) (hk : Tv g (Ok F g M w) w k v) (h : semLookupR P t kvs k ok M nx) :
    ∃ r w', (Instr.lookup t u v ok).run P w = .ok r w' ∧ SR F g M w nx r w' := by
  unfold semLookupR at h
  split at h
  · rename_i kt et hkv
    obtain ⟨hko, h⟩ := h
    have hu := kvT_spec hkv
    cases k <;> simp only [keyOk] at hko
    rename_i ds
    · cases hm.cell rfl with
      | c _ _ hh => cases hh
      | mp _ gi hg =>
        obtain ⟨gi', hg', hlv, es, h4, h5, h6⟩ := hM.ent id _ hmi
        rw [hg] at hg'; cases hg'
        obtain ⟨xs, rfl, hxs⟩ := hk.aggV fun d hd => (ckOk_plain hko d hd).1
        have hch := run_check_agg hko hxs es.isEmpty 9998 w
        have hfk := run_findKey_eq (P := P) w (ckOk_wide hko) (.agg xs) es.toList
        have base : ∀ r, findK (rows kvs) (.agg ds) 0 = some r → (r = none ∧ (Instr.findKey kt (.agg xs) es.toList).run P w = .ok none w) ∨
            ∃ (j : Nat) (v : D) (e : MapEntry), r = some (j, v) ∧ Tv g (Ok F g M w) w v e.val ∧ (Instr.findKey kt (.agg xs) es.toList).run P w = .ok (some (j, e.val)) w := by
          intro r hr
          rcases run_findAsking' (P := P) hko hxs (rows kvs) es.toList 0 r h6 hr with ⟨h7, h8⟩ | ⟨j, v, e, ks, h7, h8, h9, h10, h11⟩
          · exact .inl ⟨h7, by rw [hfk]; exact h8⟩
          · exact .inr ⟨j, v, e, by simpa using h7, (h6.2 j _ e h8 h9).2, by rw [hfk, h11]; simp⟩
        split at h
        · rename_i i v hf
          rcases base _ hf with ⟨h7, _⟩ | ⟨j, v', e, h7, h8, h9⟩
          · cases h7
          · simp only [Option.some.injEq, Prod.mk.injEq] at h7
            obtain ⟨rfl, rfl⟩ := h7
            refine ⟨_, w, by simp [Instr.lookup, run_underlying hu, MapKept.run_getObj_map h4, hch, h9], SR.plain hM h (okD_ok ok true h8)⟩
        · rename_i hf
          split at h
          · rename_i z hz
            rcases base _ hf with ⟨_, h8⟩ | ⟨j, v', e, h7, _⟩
            · obtain ⟨i, hi, hzz⟩ := Option.bind_eq_some_iff.1 hz
              obtain ⟨zv, hzv, rfl⟩ := Option.map_eq_some_iff.1 hzz
              refine ⟨_, w, by simp [Instr.lookup, run_underlying hu, MapKept.run_getObj_map h4, hch, h8, run_zeroValue hi hzv], SR.plain hM h.2 (okD_ok ok false (constD_ok h.1))⟩
            · cases h7
          · exact h.elim
        · exact h.elim
  · exact h.elim

theorem sameBits_cell {x y : Value} (h : eqCells [.v x] [.v y] = some true) (n : Nat) : Instr.sameBits n y x = true := by
  cases x <;> cases y <;> simp [eqCells] at h
  · subst h; unfold Instr.sameBits; simp
  · obtain ⟨rfl, rfl⟩ := h; unfold Instr.sameBits; simp
  · unfold Instr.sameBits
    rw [beq_toListBytes] at h ⊢
    simp only [beq_iff_eq] at h ⊢
    exact h.symm

theorem sameBits_all : ∀ {ds es : List D} {xs ys : List Value}, eqCells ds es = some true → xs.map D.v = ds → ys.map D.v = es → xs.length = ys.length ∧ ∀ n, (ys.zip xs).all (fun p => Instr.sameBits n p.1 p.2) = true
  | [], [], xs, ys, _, hx, hy => by
    have e1 : xs = [] := by simpa using hx
    have e2 : ys = [] := by simpa using hy
    subst e1; subst e2; simp
  | d :: ds, e :: es, xs, ys, h, hx, hy => by
    obtain ⟨x, y, b1, b2, rfl, rfl, h1, h2, hb⟩ := eqCells_cons h
    cases xs with
    | nil => simp at hx
    | cons x' xs =>
      cases ys with
      | nil => simp at hy
      | cons y' ys =>
        simp only [List.map_cons, List.cons.injEq, D.v.injEq] at hx hy
        obtain ⟨rfl, hx⟩ := hx
        obtain ⟨rfl, hy⟩ := hy
        have hb' : b1 = true ∧ b2 = true := by cases b1 <;> cases b2 <;> simp at hb <;> simp
        obtain ⟨rfl, rfl⟩ := hb'
        obtain ⟨k1, k2⟩ := sameBits_all h2 hx hy
        refine ⟨by simp [k1], fun n => ?_⟩
        simp only [List.zip_cons_cons, List.all_cons, k2, Bool.and_true]
        exact sameBits_cell h1 n
  | [], _ :: _, _, _, h, _, _ => by simp [eqCells] at h
  | _ :: _, [], _, _, h, _, _ => by simp [eqCells] at h

theorem keyStays {ds es : List D} {xs ys : Array Value} (h : eqCells ds es = some true) (hx : xs.toList.map D.v = ds) (hy : ys.toList.map D.v = es) : (Instr.keyThatStays (.agg ys) (.agg xs)).run P w = .ok (.agg xs) w := by
  have : ∀ n, Instr.sameBits (n + 1) (.agg ys) (.agg xs) = true := by
    intro n
    obtain ⟨k1, k2⟩ := sameBits_all h hx hy
    simp only [Instr.sameBits, Bool.and_eq_true, beq_iff_eq]
    exact ⟨by simpa using k1.symm, k2 n⟩
  have := this 9999
  simp [Instr.keyThatStays, this]

theorem frz_map {np : Nat} {d : D} {id : Nat} {kvs : List (D × D)} {ex : Bool} (h : frz np M d id = some (.map kvs ex)) : True := trivial

theorem mapUpdate0_ok (hM : MemOk F g M w) {t : TypeId} {m k v : D} {um uk uv : Value} (hm : Tv g (Ok F g M w) w m um) (hk : Tv g (Ok F g M w) w k uk) (hv : Tv g (Ok F g M w) w v uv) (h : semMapUpdate0 P F.np t m k v M nx) :
    ∃ w', (Instr.mapUpdate t um uk uv).run P w = .ok () w' ∧ SR F g M w nx undef w' := by
  unfold semMapUpdate0 at h
  split at h
  · rename_i id kt et hkv
    obtain ⟨hko, h⟩ := h
    have hu := kvT_spec hkv
    cases k <;> simp only [keyOk] at hko
    rename_i ds
    obtain ⟨f1, f2⟩ := frz_ok hM v
    split at h
    · rename_i kvs v' hmi hv'
      split at h
      · rename_i kvs' hset
        cases hm.cell rfl with
        | c _ _ hh => cases hh
        | mp _ gi hg =>
          obtain ⟨gi', hg', hlv, _, es, h4, h5, h6⟩ := f1.ent id _ hmi
          rw [hg] at hg'; cases hg'
          obtain ⟨xs, rfl, hxs⟩ := hk.aggV fun d hd => (ckOk_plain hko d hd).1
          have hch := run_check_agg hko hxs false 9998 w
          have hfk := run_findKey_eq (P := P) w (ckOk_wide hko) (.agg xs) es.toList
          have hval := fzV_ok f1 (hv.mono f2) hv'
          have hkey : ∀ {A : Nat → Prop} {w : World}, Rv A w (.agg ds) (.agg xs) := by
            intro A w
            refine .agg _ _ (by rw [← hxs]; simp) fun i d u hd hu => ?_
            have := congrArg (·[i]?) hxs
            simp only [List.getElem?_map, Array.getElem?_toList, hu, Option.map_some] at this
            rw [hd] at this; cases this
            have hp := (ckOk_plain hko _ (List.mem_of_getElem? hd)).2
            have hp' := (hk.plain (g' := fun _ => none) (A' := A) (w' := w) (by simp only [plainD, List.all_eq_true]; exact fun d hd => (ckOk_plain hko d hd).2))
            cases hp' with
            | c _ _ h => cases h with | c _ _ h => cases h
            | agg _ us hl hr => exact hr i _ u hd hu
          -- a new state of the map
          have turn : ∀ es' : Array MapEntry, (∀ (i : Nat) e, es'[i]? = some e → e.born = i) →
              (∀ A w', (∀ b, Ok F g (frz F.np M v) w b → A b ∧ w'.heap[b]? = w.heap[b]?) → EntsOk A w' kvs' es'.toList) → SR F g M w nx undef { w with heap := w.heap.setIfInBounds gi.blk (.map es' es'.size) } := by
            intro es' hb hE
            have hs := MapKept.heap_set (o' := .map es' es'.size) h4
            obtain ⟨k1, k2⟩ := f1.modify (e' := .map kvs' true) hmi rfl hg hlv (w' := { w with heap := w.heap.setIfInBounds gi.blk (.map es' es'.size) })
              (fun b hb => hs.2 b hb) (by simp) rfl rfl rfl rfl (fun hL => ⟨hlv, fun h => by simp at h, es', hs.1, hb, hE _ _ hL.A⟩)
            exact SR.then f1 f2 ⟨.junk, _, g, h, k1, k2, .junk _⟩
          have hrun : (Instr.mapUpdate t (.map (some gi.blk)) (.agg xs) uv).run P w = ((Instr.findKey kt (.agg xs) es.toList).run P w).andThen fun r w => (match r with
              | some (i, _) => do
                let key ← Instr.keyThatStays (((es[i]?).map (·.key)).getD (.agg xs)) (.agg xs)
                setObj gi.blk (.map (es.modify i fun e => { e with key, val := uv }) es.size)
              | none => setObj gi.blk (.map (es.push { key := .agg xs, val := uv, born := es.size }) (es.size + 1)) : Sem Unit).run P w := by
            simp only [Instr.mapUpdate, Sem.run_bind, run_underlying hu, Result.andThen_ok, MapKept.run_getObj_map h4, hch]
            congr 1
          unfold setK at hset
          split at hset
          · rename_i i v0 hf
            cases hset
            rcases run_findAsking' (P := P) hko hxs kvs es.toList 0 _ h6 hf with ⟨h7, _⟩ | ⟨j, v1, e, ks, h7, h8, h9, h10, h11⟩
            · cases h7
            · simp only [Nat.zero_add, Option.some.injEq, Prod.mk.injEq] at h7
              obtain ⟨rfl, rfl⟩ := h7
              have h9' : es[i]? = some e := by simpa using h9
              obtain ⟨us, hus1, hus2⟩ := (h6.2 i _ e h8 h9).1.aggV (eqCells_v h10).2
              have hks := keyStays (P := P) (w := w) h10 hxs hus2
              have hsz : (es.modify i fun e => { e with key := .agg xs, val := uv }).size = es.size := by simp
              refine ⟨_, ?_, turn (es.modify i fun e => { e with key := .agg xs, val := uv }) (fun q e' hq => ?_) (fun A w' hA => ⟨?_, fun q kv e' hq he => ?_⟩)⟩
              · rw [hrun, hfk, h11]
                simp only [Result.andThen_ok, Nat.zero_add, Sem.run_bind, h9', Option.map_some, Option.getD_some, hus1, hks, MapKept.run_setObj_map _ h4, hsz]
              · rw [Array.getElem?_modify] at hq
                split at hq
                · rename_i hqi; subst hqi
                  obtain ⟨e0, he0, rfl⟩ := Option.map_eq_some_iff.1 hq
                  exact h5 i e0 he0
                · exact h5 q e' hq
              · simp [h6.1]
              · rw [List.getElem?_set] at hq
                simp only [Array.getElem?_toList, Array.getElem?_modify] at he
                split at hq
                · rename_i hqi; subst hqi
                  simp only [if_true] at he
                  obtain ⟨e0, he0, rfl⟩ := Option.map_eq_some_iff.1 he
                  split at hq
                  · cases hq
                    exact ⟨hkey, hval.world hA⟩
                  · cases hq
                · rename_i hqi
                  rw [if_neg hqi] at he
                  have := h6.2 q kv e' hq (by simpa using he)
                  exact ⟨this.1.world hA, this.2.world hA⟩
          · rename_i hf
            cases hset
            rcases run_findAsking' (P := P) hko hxs kvs es.toList 0 _ h6 hf with ⟨_, h8⟩ | ⟨j, v1, e, ks, h7, _⟩
            · refine ⟨_, ?_, turn (es.push { key := .agg xs, val := uv, born := es.size }) (fun q e' hq => ?_) (fun A w' hA => ⟨by simp [h6.1], fun q kv e' hq he => ?_⟩)⟩
              · rw [hrun, hfk, h8]
                simp only [Result.andThen_ok, MapKept.run_setObj_map _ h4, Array.size_push]
              · rw [Array.getElem?_push] at hq
                split at hq
                · rename_i hqi; cases hq; exact hqi.symm
                · exact h5 q e' hq
              · have hlen : es.size = kvs.length := by simpa using h6.1
                simp only [Array.getElem?_toList, Array.getElem?_push] at he
                split at he
                · rename_i hqi; cases he
                  rw [List.getElem?_append_right (by omega)] at hq
                  have : q - kvs.length = 0 := by omega
                  rw [this] at hq
                  simp at hq; subst hq
                  exact ⟨hkey, hval.world hA⟩
                · rename_i hqi
                  have hlt : q < es.size := by
                    rcases Nat.lt_or_ge q es.size with h | h
                    · exact h
                    · simp [Array.getElem?_eq_none h] at he
                  rw [List.getElem?_append_left (by omega)] at hq
                  have := h6.2 q kv e' hq (by simpa using he)
                  exact ⟨this.1.world hA, this.2.world hA⟩
            · cases h7
          · cases hset
      · exact h.elim
    · exact h.elim
  · exact h.elim

theorem mapUpdateR_ok (hM : MemOk F g M w) {t : TypeId} {id rid : Nat} {kvs : List (D × Nat)} {k : D} {um uk uv : Value} (hmi : M id = some (.rmap kvs)) (hm : Tv g (Ok F g M w) w (.mp id) um) (hk : Tv g (Ok F g M w) w k uk) (hv : Tv g (Ok F g M w) w (.row rid) uv) (h : semMapR P t id kvs k rid M nx) :
    ∃ w', (Instr.mapUpdate t um uk uv).run P w = .ok () w' ∧ SR F g M w nx undef w' := by
  unfold semMapR at h
  split at h
  · rename_i kt et hkv
    obtain ⟨hko, h⟩ := h
    have hu := kvT_spec hkv
    cases k <;> simp only [keyOk] at hko
    rename_i ds
    · split at h
      · rename_i kvs' hset
        cases hm.cell rfl with
        | c _ _ hh => cases hh
        | mp _ gi hg =>
          obtain ⟨gi', hg', hlv, es, h4, h5, h6⟩ := hM.ent id _ hmi
          rw [hg] at hg'; cases hg'
          obtain ⟨xs, rfl, hxs⟩ := hk.aggV fun d hd => (ckOk_plain hko d hd).1
          have hch := run_check_agg hko hxs false 9998 w
          have hfk := run_findKey_eq (P := P) w (ckOk_wide hko) (.agg xs) es.toList
          have hkey : ∀ {A : Nat → Prop} {w : World}, Rv A w (.agg ds) (.agg xs) := by
            intro A w
            refine .agg _ _ (by rw [← hxs]; simp) fun i d u hd hu => ?_
            have := congrArg (·[i]?) hxs
            simp only [List.getElem?_map, Array.getElem?_toList, hu, Option.map_some] at this
            rw [hd] at this; cases this
            have hp := (ckOk_plain hko _ (List.mem_of_getElem? hd)).2
            have hp' := (hk.plain (g' := fun _ => none) (A' := A) (w' := w) (by simp only [plainD, List.all_eq_true]; exact fun d hd => (ckOk_plain hko d hd).2))
            cases hp' with
            | c _ _ h => cases h with | c _ _ h => cases h
            | agg _ us hl hr => exact hr i _ u hd hu
          -- a new state of the map
          have turn : ∀ es' : Array MapEntry, (∀ (i : Nat) e, es'[i]? = some e → e.born = i) →
              (∀ A w', Le g (Ok F g M w) w g A w' → EntsG g A w' (rows kvs') es'.toList) → SR F g M w nx undef { w with heap := w.heap.setIfInBounds gi.blk (.map es' es'.size) } := by
            intro es' hb hE
            have hs := MapKept.heap_set (o' := .map es' es'.size) h4
            obtain ⟨k1, k2⟩ := hM.modify (e' := .rmap kvs') hmi rfl hg hlv (w' := { w with heap := w.heap.setIfInBounds gi.blk (.map es' es'.size) })
              (fun b hb => hs.2 b hb) (by simp) rfl rfl rfl rfl (fun hL => ⟨hlv, es', hs.1, hb, hE _ _ hL⟩)
            exact ⟨.junk, _, g, h, k1, k2, .junk _⟩
          have hrun : (Instr.mapUpdate t (.map (some gi.blk)) (.agg xs) uv).run P w = ((Instr.findKey kt (.agg xs) es.toList).run P w).andThen fun r w => (match r with
              | some (i, _) => do
                let key ← Instr.keyThatStays (((es[i]?).map (·.key)).getD (.agg xs)) (.agg xs)
                setObj gi.blk (.map (es.modify i fun e => { e with key, val := uv }) es.size)
              | none => setObj gi.blk (.map (es.push { key := .agg xs, val := uv, born := es.size }) (es.size + 1)) : Sem Unit).run P w := by
            simp only [Instr.mapUpdate, Sem.run_bind, run_underlying hu, Result.andThen_ok, MapKept.run_getObj_map h4, hch]
            congr 1
          unfold setR at hset
          split at hset
          · rename_i i v0 hf
            cases hset
            rcases run_findAsking' (P := P) hko hxs (rows kvs) es.toList 0 _ h6 hf with ⟨h7, _⟩ | ⟨j, v1, e, ks, h7, h8, h9, h10, h11⟩
            · cases h7
            · simp only [Nat.zero_add, Option.some.injEq, Prod.mk.injEq] at h7
              obtain ⟨rfl, rfl⟩ := h7
              have h9' : es[i]? = some e := by simpa using h9
              obtain ⟨us, hus1, hus2⟩ := (h6.2 i _ e h8 h9).1.aggV (eqCells_v h10).2
              have hks := keyStays (P := P) (w := w) h10 hxs hus2
              have hsz : (es.modify i fun e => { e with key := .agg xs, val := uv }).size = es.size := by simp
              refine ⟨_, ?_, turn (es.modify i fun e => { e with key := .agg xs, val := uv }) (fun q e' hq => ?_) (fun A w' hA => ⟨?_, fun q kv e' hq he => ?_⟩)⟩
              · rw [hrun, hfk, h11]
                simp only [Result.andThen_ok, Nat.zero_add, Sem.run_bind, h9', Option.map_some, Option.getD_some, hus1, hks, MapKept.run_setObj_map _ h4, hsz]
              · rw [Array.getElem?_modify] at hq
                split at hq
                · rename_i hqi; subst hqi
                  obtain ⟨e0, he0, rfl⟩ := Option.map_eq_some_iff.1 hq
                  exact h5 i e0 he0
                · exact h5 q e' hq
              · have := h6.1; simpa [rows] using this
              · rw [rows_set, List.getElem?_set] at hq
                simp only [Array.getElem?_toList, Array.getElem?_modify] at he
                split at hq
                · rename_i hqi; subst hqi
                  simp only [if_true] at he
                  obtain ⟨e0, he0, rfl⟩ := Option.map_eq_some_iff.1 he
                  split at hq
                  · cases hq
                    exact ⟨hkey, hv.mono hA⟩
                  · cases hq
                · rename_i hqi
                  rw [if_neg hqi] at he
                  have := h6.2 q kv e' hq (by simpa using he)
                  exact ⟨this.1.world hA.A, this.2.mono hA⟩
          · rename_i hf
            cases hset
            rcases run_findAsking' (P := P) hko hxs (rows kvs) es.toList 0 _ h6 hf with ⟨_, h8⟩ | ⟨j, v1, e, ks, h7, _⟩
            · refine ⟨_, ?_, turn (es.push { key := .agg xs, val := uv, born := es.size }) (fun q e' hq => ?_) (fun A w' hA => ⟨by have := h6.1; simpa [rows] using this, fun q kv e' hq he => ?_⟩)⟩
              · rw [hrun, hfk, h8]
                simp only [Result.andThen_ok, MapKept.run_setObj_map _ h4, Array.size_push]
              · rw [Array.getElem?_push] at hq
                split at hq
                · rename_i hqi; cases hq; exact hqi.symm
                · exact h5 q e' hq
              · have hlen : es.size = (rows kvs).length := by simpa using h6.1
                rw [rows_app] at hq
                simp only [Array.getElem?_toList, Array.getElem?_push] at he
                split at he
                · rename_i hqi; cases he
                  rw [List.getElem?_append_right (by omega)] at hq
                  have : q - (rows kvs).length = 0 := by omega
                  rw [this] at hq
                  simp at hq; subst hq
                  exact ⟨hkey, hv.mono hA⟩
                · rename_i hqi
                  have hlt : q < es.size := by
                    rcases Nat.lt_or_ge q es.size with h | h
                    · exact h
                    · simp [Array.getElem?_eq_none h] at he
                  rw [List.getElem?_append_left (by omega)] at hq
                  have := h6.2 q kv e' hq (by simpa using he)
                  exact ⟨this.1.world hA.A, this.2.mono hA⟩
            · cases h7
          · cases hset
      · exact h.elim
  · exact h.elim

/-- What a look-up and a store into a map do to a state. -/
theorem lookup_ok (hM : MemOk F g M w) {t : TypeId} {m k : D} {u v : Value} {ok : Bool} (hm : Tv g (Ok F g M w) w m u) (hk : Tv g (Ok F g M w) w k v) (h : semLookup P t m k ok M nx) :
    ∃ r w', (Instr.lookup t u v ok).run P w = .ok r w' ∧ SR F g M w nx r w' := by
  unfold semLookup at h
  split at h
  · split at h
    · rename_i hmi; exact lookupR_ok hM hmi hm hk h
    · exact lookup0_ok hM hm hk h
  · exact h.elim
theorem mapUpdate_ok (hM : MemOk F g M w) {t : TypeId} {m k v : D} {um uk uv : Value} (hm : Tv g (Ok F g M w) w m um) (hk : Tv g (Ok F g M w) w k uk) (hv : Tv g (Ok F g M w) w v uv) (h : semMapUpdate P F.np t m k v M nx) :
    ∃ w', (Instr.mapUpdate t um uk uv).run P w = .ok () w' ∧ SR F g M w nx undef w' := by
  unfold semMapUpdate at h
  split at h
  · split at h
    · rename_i hmi
      split at h
      · exact mapUpdateR_ok hM hmi hm hk hv h
      · exact h.elim
    · exact mapUpdate0_ok hM hm hk hv h
  · exact h.elim

theorem range_ok (hM : MemOk F g M w) {t : TypeId} {m : D} {u : Value} {fid : Nat} (hm : Tv g (Ok F g M w) w m u) (h : semRange P F.np t m M fid nx) :
    ∃ v w', (Instr.range t u).run P w = .ok v w' ∧ SR F g M w nx v w' := by
  unfold semRange at h
  split at h
  · rename_i id
    obtain ⟨hkv, hf, hnp, h⟩ := h
    obtain ⟨⟨k, e⟩, hkv⟩ := Option.isSome_iff_exists.1 hkv
    split at h
    · rename_i kvs ex hmi
      cases hm.cell rfl with
      | c _ _ hh => cases hh
      | mp _ gi hg =>
        have hne : fid ≠ id := fun he => by subst he; rw [hf] at hmi; cases hmi
        -- the map is frozen
        have fr : MemOk F g (upd M id (some (.map kvs false))) w ∧ Le g (Ok F g M w) w g (Ok F g (upd M id (some (.map kvs false))) w) w := by
          refine hM.calm hmi rfl fun gi' hg' hL => ?_
          rw [hg] at hg'; cases hg'
          obtain ⟨gi', hg', hlv, hA, es, h4, h5, h6⟩ := hM.ent id _ hmi
          rw [hg] at hg'; cases hg'
          refine ⟨hlv, fun _ => ?_, es, h4, h5, h6.mono hL.A⟩
          cases ex with
          | false => exact (hL.A _ (hA rfl)).1
          | true =>
            have hlo := hM.lo id _ gi hmi rfl hg hlv
            refine ⟨hlo.1, fun hlt => ?_, fun id' e gi2 hm2 hx hg2 hl2 hbe => ?_⟩
            · have := hM.hi id _ gi hnp hmi rfl hg hlv; unfold Fr.B at hlt this; omega
            · by_cases hid : id' = id
              · subst hid; simp only [upd_same, Option.some.injEq] at hm2; subst hm2; simp [Ent.ex] at hx
              · simp only [upd, hid, if_false] at hm2
                exact hM.inj id' id e _ gi2 gi hid hm2 hmi hx rfl hg2 hg hl2 hlv hbe
        obtain ⟨f1, f2⟩ := fr
        obtain ⟨gi', hg', hlv, hA, es, h4, h5, h6⟩ := f1.ent id _ (upd_same _ _ _)
        rw [hg] at hg'; cases hg'
        obtain ⟨k1, k2⟩ := f1.alloc (f := fid) (by rw [upd_ne _ _ hne]; exact hf) (.mapIter (some gi.blk) es.size #[] es.size) (.iter kvs none) ⟨w.heap.size, 0, 0, 0, true⟩ rfl
          (fun hL => ⟨rfl, gi.blk, es, #[], (hL.A _ (hA rfl)).1, (hL.A _ (hA rfl)).2.trans h4, h5, by simp, by
            have e : (leftOf es #[]).toList = es.toList := by
              simp only [leftOf, Array.toList_filter]
              exact List.filter_eq_self.2 fun x _ => by simp
            rw [e]; exact h6.mono hL.A, by simp⟩)
        exact ⟨_, _, run_range_map w t k e gi.blk es es.size (kvT_spec hkv) h4, SR.then f1 f2 ⟨_, _, _, h, k1, k2, .c _ _ (.it fid ⟨w.heap.size, 0, 0, 0, true⟩ (by simp))⟩⟩
    · exact h.elim
  · exact h.elim

theorem born_nodup {es : Array MapEntry} (hb : ∀ (i : Nat) e, es[i]? = some e → e.born = i) : (es.toList.map (·.born)).Nodup := by
  have : es.toList.map (·.born) = List.range es.size := by
    apply List.ext_getElem?
    intro i
    rcases Nat.lt_or_ge i es.size with h | h
    · have h1 : es[i]? = some es[i] := Array.getElem?_eq_getElem h
      simp only [List.getElem?_map, Array.getElem?_toList, h1, Option.map_some, hb _ _ h1]
      simp [h]
    · rw [List.getElem?_eq_none (by simpa using h), List.getElem?_eq_none (by simpa using h)]
  rw [this]
  exact List.nodup_range

theorem left_push {es : Array MapEntry} (hb : ∀ (i : Nat) e, es[i]? = some e → e.born = i) {seen : Array Nat} {j : Nat} {e : MapEntry} (hj : (leftOf es seen).toList[j]? = some e) :
    (leftOf es (seen.push e.born)).toList = (leftOf es seen).toList.eraseIdx j := by
  have hl : ∀ s, (leftOf es s).toList = es.toList.filter fun x => !s.contains x.born := fun s => by simp [leftOf]
  rw [hl] at hj ⊢
  rw [hl]
  have hnd : (es.toList.map (·.born)).Nodup := by
    exact born_nodup hb
  have hf : es.toList.filter (fun x => !(seen.push e.born).contains x.born) = (es.toList.filter fun x => !seen.contains x.born).filter fun x => x.born != e.born := by
    rw [List.filter_filter]
    congr 1
    funext x
    rw [contains_push]
    cases seen.contains x.born <;> cases h : (x.born == e.born) <;> simp_all
  rw [hf]
  have hnd' : ((es.toList.filter fun x => !seen.contains x.born).map (·.born)).Nodup := hnd.sublist (List.filter_sublist.map _)
  generalize es.toList.filter (fun x => !seen.contains x.born) = l at hj hnd'
  clear hf hnd hl hb
  induction l generalizing j with
  | nil => simp at hj
  | cons x l ih =>
    rw [List.map_cons, List.nodup_cons] at hnd'
    cases j with
    | zero =>
      simp at hj; subst hj
      simp only [List.filter_cons, bne_self_eq_false, Bool.false_eq_true, if_false, List.eraseIdx_cons_zero]
      rw [List.filter_eq_self]
      intro y hy
      simp only [bne_iff_ne, ne_eq]
      intro he
      exact hnd'.1 (by rw [← he]; exact List.mem_map.2 ⟨y, hy, rfl⟩)
    | succ j =>
      have hj' : l[j]? = some e := by simpa using hj
      have hx : x.born ≠ e.born := fun he => hnd'.1 (by rw [he]; exact List.mem_map.2 ⟨e, List.mem_of_getElem? hj', rfl⟩)
      simp only [List.filter_cons, bne_iff_ne, ne_eq, hx, not_false_eq_true, if_true, List.eraseIdx_cons_succ]
      rw [ih hj' hnd'.2]

theorem tup2 {A : Nat → Prop} {k v : D} {x y : Value} (h1 : Rv A w k x) (h2 : Rv A w v y) : Tv g A w (.tup [k, v]) (.tuple #[x, y]) := by
  refine .tup _ _ rfl fun i d' u' hd hu => ?_
  match i with
  | 0 => simp at hd hu; subst hd; subst hu; exact h1.noId
  | 1 => simp at hd hu; subst hd; subst hu; exact h2.noId
  | i + 2 => simp at hd
theorem tup3 {A : Nat → Prop} {k v : D} {b : Bool} {x y : Value} (h1 : Rv A w k x) (h2 : Rv A w v y) : Tv g A w (.tup [.v (.bool b), k, v]) (.tuple #[.bool b, x, y]) := by
  refine .tup _ _ rfl fun i d' u' hd hu => ?_
  match i with
  | 0 => simp at hd hu; subst hd; subst hu; exact .c _ _ (.c _ _ (.v _ rfl))
  | 1 => simp at hd hu; subst hd; subst hu; exact h1.noId
  | 2 => simp at hd hu; subst hd; subst hu; exact h2.noId
  | i + 3 => simp at hd

theorem next_ok (hM : MemOk F g M w) {ty : TypeId} {it : D} {u : Value} {s : Bool} (hi : Tv g (Ok F g M w) w it u) (h : semNext s it M nx) :
    ∃ v w', (Instr.next u s ty).run P w = .ok v w' ∧ SR F g M w nx v w' := by
  unfold semNext at h
  split at h
  · rename_i id
    obtain ⟨rfl, h⟩ := h
    split at h
    · rename_i left last hmi
      obtain ⟨h0, h1⟩ := h
      cases hi.cell rfl with
      | c _ _ hh => cases hh
      | it _ gi hg =>
        obtain ⟨gi', hg', hlv, mb, es, seen, q1, q2, q3, q4, q5, q6⟩ := hM.ent id _ hmi
        rw [hg] at hg'; cases hg'
        have hborn : ∀ x ∈ es.toList, x.born < es.size := by
          intro x hx
          obtain ⟨i, hi⟩ := List.getElem?_of_mem hx
          have hi' : es[i]? = some x := by simpa using hi
          rw [q3 i x hi']
          exact (Array.getElem?_eq_some_iff.1 hi').1
        rcases run_next_at (P := P) w ty gi.blk mb es.size es.size seen es es.size q4 q2 hborn (Nat.le_refl _) with ⟨hz, hrun⟩ | ⟨e, he, w1, hal, hrun⟩
        · have hnil : left = [] := by
            have := q5.1
            rw [Array.length_toList, hz] at this
            exact List.eq_nil_of_length_eq_zero this.symm
          refine ⟨_, w, hrun, SR.plain hM (h0 hnil) (.tup _ _ rfl fun i d' u' hd hu => ?_)⟩
          match i with
          | 0 => simp at hd hu; subst hd; subst hu; exact .c _ _ (.c _ _ (.v _ rfl))
          | i + 1 => simp at hd
        · obtain ⟨j, hj⟩ := List.getElem?_of_mem he
          have hjl : j < left.length := by
            rw [← q5.1]
            rcases Nat.lt_or_ge j (leftOf es seen).toList.length with h | h
            · exact h
            · simp [List.getElem?_eq_none h] at hj
          have hk : left[j]? = some left[j] := List.getElem?_eq_getElem hjl
          obtain ⟨r1, r2⟩ := q5.2 j _ e hk hj
          have hnx := h1 j left[j].1 left[j].2 hk
          obtain ⟨d1, d2⟩ : MemOk F g M w1 ∧ Le g (Ok F g M w) w g (Ok F g M w1) w1 := by
            rcases hal with rfl | rfl
            · exact ⟨hM, Le.refl _ _ _⟩
            · exact hM.same rfl rfl rfl rfl
          have q4' : w1.heap[gi.blk]? = some (.mapIter (some mb) es.size seen es.size) := by rcases hal with rfl | rfl <;> exact q4
          have hs := MapKept.heap_set (o' := .mapIter (some mb) es.size (seen.push e.born) es.size) q4'
          obtain ⟨k1, k2⟩ := d1.modify (e' := .iter (left.eraseIdx j) (some left[j])) hmi rfl hg hlv (w' := setBlock w1 gi.blk (.mapIter (some mb) es.size (seen.push e.born) es.size))
            (fun b hb => hs.2 b hb) (by simp [setBlock]) rfl rfl rfl rfl (fun hL => by
              have hA : ∀ b, Ok F g M w b → Ok F g (upd M id (some (.iter (left.eraseIdx j) (some left[j])))) (setBlock w1 gi.blk (.mapIter (some mb) es.size (seen.push e.born) es.size)) b ∧ (setBlock w1 gi.blk (.mapIter (some mb) es.size (seen.push e.born) es.size)).heap[b]? = w.heap[b]? :=
                fun b hb => ⟨(hL.A b (d2.A b hb).1).1, (hL.A b (d2.A b hb).1).2.trans (d2.A b hb).2⟩
              refine ⟨hlv, mb, es, seen.push e.born, (hA _ q1).1, (hA _ q1).2.trans q2, q3, hs.1, ⟨?_, fun i kv e' a b => ?_⟩, fun kv hkv => ?_⟩
              · rw [left_push q3 hj, List.length_eraseIdx, List.length_eraseIdx, q5.1]
              · rw [left_push q3 hj, List.getElem?_eraseIdx] at b
                rw [List.getElem?_eraseIdx] at a
                split at a
                · rename_i hlt; rw [if_pos hlt] at b
                  have := q5.2 i kv e' a b
                  exact ⟨this.1.world hA, this.2.world hA⟩
                · rename_i hlt; rw [if_neg hlt] at b
                  have := q5.2 (i + 1) kv e' a b
                  exact ⟨this.1.world hA, this.2.world hA⟩
              · cases hkv
                exact ⟨seen, e, rfl, (mem_left he).1, r1.world hA, r2.world hA⟩)
          have hA : ∀ b, Ok F g M w b → Ok F g (upd M id (some (.iter (left.eraseIdx j) (some left[j])))) (setBlock w1 gi.blk (.mapIter (some mb) es.size (seen.push e.born) es.size)) b ∧ (setBlock w1 gi.blk (.mapIter (some mb) es.size (seen.push e.born) es.size)).heap[b]? = w.heap[b]? :=
            fun b hb => ⟨(k2.A b (d2.A b hb).1).1, (k2.A b (d2.A b hb).1).2.trans (d2.A b hb).2⟩
          exact ⟨_, _, hrun, SR.then d1 d2 ⟨_, _, g, hnx, k1, k2, tup3 (r1.world hA) (r2.world hA)⟩⟩
    · exact h.elim
  · exact h.elim

theorem entry_ok (hM : MemOk F g M w) {it : D} {u : Value} (hi : Tv g (Ok F g M w) w it u) (h : semEntry it M nx) :
    ∃ v w', (Instr.entry u).run P w = .ok v w' ∧ SR F g M w nx v w' := by
  unfold semEntry at h
  split at h
  · rename_i id
    split at h
    · rename_i left k v hmi
      cases hi.cell rfl with
      | c _ _ hh => cases hh
      | it _ gi hg =>
        obtain ⟨gi', hg', hlv, mb, es, seen, q1, q2, q3, q4, q5, q6⟩ := hM.ent id _ hmi
        rw [hg] at hg'; cases hg'
        obtain ⟨s0, e, rfl, r1, r2, r3⟩ := q6 _ rfl
        have hnd : (es.toList.map (·.born)).Nodup := by
          exact born_nodup q3
        exact ⟨_, w, run_entry_at w gi.blk mb es.size s0 es es.size e q4 q2 r1 hnd, SR.plain hM h (tup2 r2 r3)⟩
    · exact h.elim
  · exact h.elim
end

end Go.Abs

/- The abstract machine, eleventh part: every operation; regions; code. -/
set_option linter.unusedVariables false
set_option linter.unusedSimpArgs false
namespace Go.Abs
open Go

def semBin (P : Program) (op : BinOp) (t : TypeId) (x y : D) (M : Mem) (nx : D → Mem → Prop) : Prop :=
  match x, y with
  | .v a, .v b => semBinV P op t a b M nx
  | .agg ds, .agg es => eqOk P t ds es ∧ match op, eqCells ds es with
    | .eql, some b => nx (.v (.bool b)) M
    | .neq, some b => nx (.v (.bool (!b))) M
    | _, _ => False
  | .nils, .nils => (elT P t).isSome = true ∧ match op with
    | .eql => nx (.v (.bool true)) M
    | .neq => nx (.v (.bool false)) M
    | _ => False
  | .sl _ es, .nils => (elT P t).isSome = true ∧ match op with
    | .eql => nx (.v (.bool false)) M ∧ (es = [] → nx (.v (.bool true)) M)
    | .neq => nx (.v (.bool true)) M ∧ (es = [] → nx (.v (.bool false)) M)
    | _ => False
  | _, _ => False

def mmD (mx : Bool) : D → List D → Option D
  | .v (.int k x), [] => some (.v (.int k x))
  | .v (.int k x), .v (.int _ y) :: l => mmD mx (.v (.int k (if mx then (if y > x then y else x) else (if y < x then y else x)))) l
  | _, _ => none
def semMM (mx : Bool) (ds : List D) (M : Mem) (nx : D → Mem → Prop) : Prop :=
  match ds with
  | d :: l => match mmD mx d l with
    | some r => nx r M
    | none => False
  | [] => False

def semBuiltin (P : Program) (np : Nat) (b : Builtin) (ds : List D) (ts : List TypeId) (M : Mem) (fid : Nat) (nx : D → Mem → Prop) : Prop :=
  match b, ds, ts with
  | .len, [x], [t] => semLen P t x M nx
  | .append, [s, x], [t, t2] => semAppend P np t t2 s x M fid nx
  | .min, ds, _ => semMM false ds M nx
  | .max, ds, _ => semMM true ds M nx
  | _, _, _ => False

/-- What an operation does to a state. -/
def sem (P : Program) (K : Kt) (np : Nat) (op : Op) (ρ : Operand → D) (M : Mem) (fid : Nat) (nx : D → Mem → Prop) : Prop :=
  match op with
  | .move x | .assign x => nx (ρ x) M
  | .pick c a b => semPick (ρ c) (ρ a) (ρ b) M nx
  | .alloc t => semAlloc P t M fid nx
  | .box t x => semBox (ρ x) M fid nx
  | .build t parts => semBuildT P t (partsD ρ parts) M nx
  | .buildSlice t len parts => semBuildSlice P np t len (partsD ρ parts) M fid nx
  | .load t a => semLoad P t (ρ a) M nx
  | .store t a x => semStore P np t (ρ a) (ρ x) M nx
  | .nilCheck x => semNil (ρ x) M nx
  | .binOp op t x y _ => semBin P op t (ρ x) (ρ y) M nx
  | .unOp op _ x => semUn op (ρ x) M nx
  | .convert s d x => semConv P s d (ρ x) M nx
  | .makeFunc fn f c => semMakeFunc fn (f.toList.map ρ) (c.toList.map ρ) M nx
  | .makeSlice t l c => semMakeSlice P t (ρ l) (ρ c) M fid nx
  | .slice t x lo hi none => semSlice P t (ρ x) (lo.map ρ) (hi.map ρ) M nx
  | .fieldAddr t x f => semFieldAddr P t (ρ x) f M nx
  | .field t x f => semField P t (ρ x) f M nx
  | .indexAddr t x i => semIndexAddr P t (ρ x) (ρ i) M nx
  | .index t x i => semIndex P t (ρ x) (ρ i) M nx
  | .extract t i => semExtract (ρ t) i M nx
  | .makeMap t none => semMakeMap M fid nx
  | .lookup t m k ok => semLookup P t (ρ m) (ρ k) ok M nx
  | .mapUpdate t m k x => semMapUpdate P np t (ρ m) (ρ k) (ρ x) M nx
  | .range t m => semRange P np t (ρ m) M fid nx
  | .next it s => semNext s (ρ it) M nx
  | .entry it => semEntry (ρ it) M nx
  | .call c => match c.callee with
    | .builtin b => semBuiltin P np b (c.args.toList.map ρ) c.argTypes.toList M fid nx
    | .value f => match ρ f with
      | .fn f first caps => semCall K np f (first ++ c.args.toList.map ρ ++ caps) M fid nx
      | _ => False
    | _ => False
  | _ => False

def OpRes (P : Program) (F : Fr) (g : Nat → Option GI) (M : Mem) (w : World) (nx : D → Mem → Prop) (r : Result Next) : Prop :=
  (∃ v w', r = .ok (.value v) w' ∧ SR F g M w nx v w') ∨ (∃ w', r = .ok .skip w' ∧ SR F g M w nx undef w') ∨
  ∃ f args, r = .ok (.enter f args) w ∧ Calls P f args w fun e w' => ∃ v, e = .returned v ∧ SR F g M w nx v w'

theorem OpRes.value {P : Program} {F : Fr} {g M w nx} {s : Sem Value} (h : ∃ v w', s.run P w = .ok v w' ∧ SR F g M w nx v w') : OpRes P F g M w nx ((do pure (.value (← s)) : Sem Next).run P w) := by
  obtain ⟨v, w', h1, h2⟩ := h
  exact .inl ⟨v, w', by simp [h1], h2⟩

theorem elT_slice {P : Program} {t : TypeId} (h : (elT P t).isSome = true) : ∃ e, P.underlying t = some (.slice e) := by
  unfold elT at h
  split at h
  · exact ⟨_, by assumption⟩
  · cases h
theorem bin_slnil {P : Program} {t e : TypeId} {op : BinOp} {xo yo : Operand} (ho : op = .eql ∨ op = .neq) (he : P.underlying t = some (.slice e)) (a : Option Addr) (l c : Nat) (w : World) :
    (do eqGuard op t xo yo (.slice a l c) (.slice none 0 0); binOp op t (.slice a l c) (.slice none 0 0) : Sem Value).run P w = .ok (.bool (if op = .eql then a.isNone else !a.isNone)) w := by
  rcases ho with rfl | rfl
  · simp [eqGuard, binOp, run_equal_slice_nil w t e a l c he]
  · simp [eqGuard, run_neq_slice_nil w t e a l c he]

theorem bin_ok {P : Program} {F : Fr} {g M w nx} (hM : MemOk F g M w) {op : BinOp} {t : TypeId} {xo yo : Operand} {x y : D} {u v : Value} (hx : Tv g (Ok F g M w) w x u) (hy : Tv g (Ok F g M w) w y v) (h : semBin P op t x y M nx) :
    ∃ v' w', (do eqGuard op t xo yo u v; binOp op t u v : Sem Value).run P w = .ok v' w' ∧ SR F g M w nx v' w' := by
  unfold semBin at h
  split at h
  · cases hx.cell rfl with
    | c _ _ hr => cases hr with
      | v => cases hy.cell rfl with
        | c _ _ hr => cases hr with
          | v => exact binV_ok hM h
  · rename_i ds es
    obtain ⟨hE, h⟩ := h
    cases hx with
    | c _ _ h => cases h with | c _ _ h => cases h
    | agg _ us hl hr => cases hy with
      | c _ _ h => cases h with | c _ _ h => cases h
      | agg _ vs hl' hr' =>
        have hb : ∀ {b : Bool}, nx (.v (.bool b)) M → SR F g M w nx (.bool b) w := fun hn => SR.plain hM hn (.c _ _ (.c _ _ (.v _ rfl)))
        split at h
        · rename_i b hb'
          obtain ⟨h1, h2⟩ := eqCells_v hb'
          exact ⟨_, _, bin_aggN (.inl rfl) hE (agg_map_v hl hr h1) (agg_map_v hl' hr' h2) hb' w, hb (by simpa using h)⟩
        · rename_i b hb'
          obtain ⟨h1, h2⟩ := eqCells_v hb'
          exact ⟨_, _, bin_aggN (.inr rfl) hE (agg_map_v hl hr h1) (agg_map_v hl' hr' h2) hb' w, hb (by simpa using h)⟩
        · exact h.elim
  · obtain ⟨he, h⟩ := h
    cases hx.cell rfl with
    | c _ _ hr => cases hr with
        | nils => cases hy.cell rfl with
          | c _ _ hr => cases hr with
              | nils =>
                obtain ⟨e, he⟩ := elT_slice he
                have hb : ∀ {b : Bool}, nx (.v (.bool b)) M → SR F g M w nx (.bool b) w := fun hn => SR.plain hM hn (.c _ _ (.c _ _ (.v _ rfl)))
                split at h
                · exact ⟨_, _, bin_slnil (.inl rfl) he none 0 0 w, hb (by simpa using h)⟩
                · exact ⟨_, _, bin_slnil (.inr rfl) he none 0 0 w, hb (by simpa using h)⟩
                · exact h.elim
  · rename_i sz es
    obtain ⟨he, h⟩ := h
    cases hx.cell rfl with
    | c _ _ hr => cases hr with
        | sl _ _ a c X hn hsz ha hr => cases hy.cell rfl with
          | c _ _ hr => cases hr with
              | nils =>
                obtain ⟨e, he⟩ := elT_slice he
                have hb : ∀ {b : Bool}, nx (.v (.bool b)) M → SR F g M w nx (.bool b) w := fun hn => SR.plain hM hn (.c _ _ (.c _ _ (.v _ rfl)))
                have hs : es ≠ [] → a.isNone = false := fun h => by obtain ⟨b, o, h1, _⟩ := ha h; rw [h1]; rfl
                split at h
                · refine ⟨_, _, bin_slnil (.inl rfl) he a es.length c w, hb ?_⟩
                  by_cases h0 : es = []
                  · cases a.isNone
                    · exact h.1
                    · exact h.2 h0
                  · rw [hs h0]; exact h.1
                · refine ⟨_, _, bin_slnil (.inr rfl) he a es.length c w, hb ?_⟩
                  by_cases h0 : es = []
                  · cases a.isNone
                    · exact h.1
                    · exact h.2 h0
                  · rw [hs h0]; exact h.1
                · exact h.elim
  · exact h.elim

theorem mm_ok {P : Program} {F : Fr} {g M w} (mx : Bool) : ∀ (l : List D) (vs : List Value) (d : D) (u : Value) (r : D), vs.length = l.length → (∀ (i : Nat) d u, l[i]? = some d → vs[i]? = some u → Tv g (Ok F g M w) w d u) → Tv g (Ok F g M w) w d u → mmD mx d l = some r →
    ∃ v, (vs.foldlM (if mx then Builtin.max2 else Builtin.min2) u).run P w = .ok v w ∧ Tv g (Ok F g M w) w r v
  | [], vs, d, u, r, hl, _, hu, h => by
    have hv : vs = [] := by simpa using hl
    subst hv
    refine ⟨u, by simp [List.foldlM], ?_⟩
    unfold mmD at h
    split at h
    · cases h; exact hu
    · rename_i hh; simp at hh
    · simp at h
  | e :: l, [], d, u, r, hl, _, _, _ => by simp at hl
  | e :: l, v :: vs, d, u, r, hl, hr, hu, h => by
    unfold mmD at h
    split at h
    · rename_i hh; simp at hh
    · rename_i k x k' y l' hh
      cases hh
      cases hu.cell rfl with
      | c _ _ hc => cases hc with
        | v => cases (hr 0 _ v rfl rfl).cell rfl with
          | c _ _ hc => cases hc with
            | v =>
              obtain ⟨q, q1, q2⟩ := mm_ok mx l vs _ (.int k (if mx then (if y > x then y else x) else (if y < x then y else x))) r (by simpa using hl) (fun i d u hd hu => hr (i + 1) d u (by simpa using hd) (by simpa using hu)) (.c _ _ (.c _ _ (.v _ rfl))) h
              refine ⟨q, ?_, q2⟩
              cases mx <;> simpa [List.foldlM, Builtin.max2, Builtin.min2] using q1
    · simp at h

theorem map_eval {g A w} {ρ : Operand → D} {ev : Operand → Value} (h : ∀ x, Tv g A w (ρ x) (ev x)) (l : List Operand) : (l.map ev).length = (l.map ρ).length ∧ ∀ (i : Nat) d u, (l.map ρ)[i]? = some d → (l.map ev)[i]? = some u → Tv g A w d u := by
  refine ⟨by simp, fun i d u hd hu => ?_⟩
  rw [List.getElem?_map] at hd hu
  cases hl : l[i]? with
  | none => rw [hl] at hd; simp at hd
  | some x => rw [hl] at hd hu; simp at hd hu; rw [← hd, ← hu]; exact h x

theorem builtin_ok {P : Program} {F : Fr} {g M w nx} (hM : MemOk F g M w) {b : Builtin} {ds : List D} {vs : List Value} {ts : List TypeId} {ty : TypeId} {cs : Array Bool} {fid : Nat} (hl : vs.length = ds.length)
    (hr : ∀ (i : Nat) d u, ds[i]? = some d → vs[i]? = some u → Tv g (Ok F g M w) w d u) (h : semBuiltin P F.np b ds ts M fid nx) : OpRes P F g M w nx ((builtin b ts.toArray ty cs vs.toArray).run P w) := by
  unfold semBuiltin at h
  split at h
  · match vs, hl with
    | [v], _ => exact OpRes.value (len_ok hM (hr 0 _ v rfl rfl) h)
  · match vs, hl with
    | [u, v], _ => exact OpRes.value (append_ok hM (hr 0 _ u rfl rfl) (hr 1 _ v rfl rfl) h)
  · unfold semMM at h
    split at h
    · rename_i d l
      split at h
      · rename_i r hr'
        match vs, hl with
        | u :: vs, hl =>
          obtain ⟨q, q1, q2⟩ := mm_ok (P := P) false l vs d u r (by simpa using hl) (fun i d u hd hu => hr (i + 1) d u (by simpa using hd) (by simpa using hu)) (hr 0 d u rfl rfl) hr'
          exact OpRes.value ⟨q, w, by simpa [Builtin.min_] using q1, SR.plain hM h q2⟩
      · exact h.elim
    · exact h.elim
  · unfold semMM at h
    split at h
    · rename_i d l
      split at h
      · rename_i r hr'
        match vs, hl with
        | u :: vs, hl =>
          obtain ⟨q, q1, q2⟩ := mm_ok (P := P) true l vs d u r (by simpa using hl) (fun i d u hd hu => hr (i + 1) d u (by simpa using hd) (by simpa using hu)) (hr 0 d u rfl rfl) hr'
          exact OpRes.value ⟨q, w, by simpa [Builtin.max_] using q1, SR.plain hM h q2⟩
      · exact h.elim
    · exact h.elim
  · exact h.elim

theorem parts_ok {g A w} {ρ : Operand → D} {ev : Operand → Value} (h : ∀ x, Tv g A w (ρ x) (ev x)) (parts : Array (Nat × Operand)) :
    (parts.map fun (i, x) => (i, ev x)).toList.length = (partsD ρ parts).length ∧
    ∀ (i : Nat) p v, (partsD ρ parts)[i]? = some p → (parts.map fun (i, x) => (i, ev x)).toList[i]? = some v → p.1 = v.1 ∧ Tv g A w p.2 v.2 := by
  refine ⟨by simp [partsD], fun i p v hp hv => ?_⟩
  simp only [partsD, List.getElem?_map, Array.toList_map] at hp hv
  cases hl : parts.toList[i]? with
  | none => rw [hl] at hp; simp at hp
  | some q => rw [hl] at hp hv; simp at hp hv; subst hp; subst hv; exact ⟨rfl, h _⟩

theorem optD_ok {g A w} {ρ : Operand → D} {ev : Operand → Value} (h : ∀ x, Tv g A w (ρ x) (ev x)) (x : Option Operand) : match x.map ρ, x.map ev with | none, none => True | some d, some v => Tv g A w d v | _, _ => False := by
  cases x with
  | none => trivial
  | some x => exact h x

theorem op_ok {P : Program} {K : Kt} (hK : KOk P K) {F : Fr} {g M w nx} (hM : MemOk F g M w) {o : Oper} {ρ : Operand → D} {ev : Operand → Value} (hρ : ∀ x, Tv g (Ok F g M w) w (ρ x) (ev x)) {fid : Nat}
    (h : sem P K F.np o.op ρ M fid nx) : OpRes P F g M w nx ((execOp ev o).run P w) := by
  obtain ⟨dst, op, type, pos, after, guard⟩ := o
  change sem P K F.np op ρ M fid nx at h
  unfold sem at h
  split at h
  · exact .inl ⟨_, _, rfl, SR.plain hM h (hρ _)⟩
  · exact .inl ⟨_, _, rfl, SR.plain hM h (hρ _)⟩
  · rename_i c a b
    unfold semPick at h
    split at h
    · rename_i t ht
      have := hρ c
      rw [ht] at this
      have hc : ev c = .bool t := by
        cases this.cell rfl with | c _ _ hr => generalize ev c = q at hr; cases hr with | v => rfl
      cases t with
      | true => exact .inl ⟨ev a, w, by simp [execOp, hc, asBool], SR.plain hM (h.1 rfl) (hρ _)⟩
      | false => exact .inl ⟨ev b, w, by simp [execOp, hc, asBool], SR.plain hM (h.2 rfl) (hρ _)⟩
    · exact h.elim
  · exact OpRes.value (alloc_ok hM h)
  · exact OpRes.value (box_ok (P := P) hM (hρ _) h)
  · rename_i t parts
    obtain ⟨h1, h2⟩ := parts_ok hρ parts
    exact OpRes.value (build_ok hM h1 h2 (semBuildT_imp h))
  · rename_i t len parts
    obtain ⟨h1, h2⟩ := parts_ok hρ parts
    exact OpRes.value (buildSlice_ok hM h1 h2 h)
  · exact OpRes.value (load_ok hM (hρ _) h)
  · obtain ⟨w', h1, h2⟩ := store_ok (P := P) hM (hρ _) (hρ _) h
    exact .inr (.inl ⟨w', by simp [execOp, h1], h2⟩)
  · rename_i x
    have hx := hρ x
    have hn : ∀ {q : Value}, ev x = q → (match q with | .pointer (some _) => True | .func (.func _) _ _ => True | _ => False) → nx (ρ x) M → OpRes P F g M w nx ((execOp ev ⟨dst, .nilCheck x, type, pos, after, guard⟩).run P w) := by
      intro q hq hm hnx
      refine .inl ⟨ev x, w, ?_, SR.plain hM hnx hx⟩
      subst hq
      simp only [execOp]
      split at hm <;> simp_all
    unfold semNil at h
    split at h
    · rename_i id off hd
      rw [hd] at hx
      generalize hq : ev x = q at hx
      cases hx.cell rfl with
      | c _ _ hh => cases hh
      | box _ _ gi hg => exact hn hq trivial h
    · rename_i id i off hd
      rw [hd] at hx
      generalize hq : ev x = q at hx
      cases hx.cell rfl with
      | c _ _ hh => cases hh
      | elt _ _ _ gi hg hi => exact hn hq trivial h
    · rename_i sz es i off hd
      rw [hd] at hx
      generalize hq : ev x = q at hx
      cases hx.cell rfl with
      | c _ _ hh => cases hh with
        | rp => exact hn hq trivial h
    · rename_i f a b hd
      rw [hd] at hx
      generalize hq : ev x = q at hx
      cases hx.cell rfl with
      | c _ _ hh => cases hh with
        | fn => exact hn hq trivial h
      | fn => exact hn hq trivial h
    · exact h.elim
  · exact OpRes.value (bin_ok hM (hρ _) (hρ _) h)
  · exact OpRes.value (un_ok hM (hρ _) h)
  · exact OpRes.value (conv_ok hM (hρ _) h)
  · rename_i fn f c
    unfold semMakeFunc at h
    split at h
    · rename_i ff
      obtain ⟨h1, h2, h3⟩ := h
      refine .inl ⟨.func (.func ff) (f.map ev) (c.map ev), w, by simp [execOp, Instr.makeFunc], SR.plain hM h3 (.c _ _ ?_)⟩
      obtain ⟨p1, p2⟩ := map_eval hρ f.toList
      obtain ⟨q1, q2⟩ := map_eval hρ c.toList
      rw [List.all_eq_true] at h1 h2
      refine .fn ff _ _ (c.map ev) (f.map ev) (by simp) (by simp) (fun i d u hd hu => (p2 i d u hd (by simpa using hu)).cell (h1 d (List.mem_of_getElem? hd))) (fun i d u hd hu => (q2 i d u hd (by simpa using hu)).cell (h2 d (List.mem_of_getElem? hd)))
    · exact h.elim
  · exact OpRes.value (makeSlice_ok hM (hρ _) (hρ _) h)
  · rename_i t x lo hi
    exact OpRes.value (slice_ok hM (hρ _) (optD_ok hρ lo) (optD_ok hρ hi) h)
  · exact OpRes.value (fieldAddr_ok hM (hρ _) h)
  · exact OpRes.value (field_ok hM (hρ _) h)
  · exact OpRes.value (indexAddr_ok hM (hρ _) (hρ _) h)
  · rename_i t x i
    have hx := hρ x
    have hi := hρ i
    refine OpRes.value ?_
    unfold semIndex at h
    split at h
    · rename_i k n s hi' hx'
      rw [hi'] at hi; rw [hx'] at hx
      obtain ⟨_, h1, ⟨h2, h3⟩, h4⟩ := h
      have ht : P.underlying t = some .string := by split at h1 <;> simp_all
      have e1 : ev i = .int k n := by cases hi.cell rfl with | c _ _ hr => generalize ev i = q at hr; cases hr; rfl
      have e2 : ev x = .string s := by cases hx.cell rfl with | c _ _ hr => generalize ev x = q at hr; cases hr; rfl
      have hlt : n.toNat < s.size := by omega
      refine ⟨.int .u8 (s[n.toNat]'hlt).toNat, w, ?_, SR.plain hM (h4 hlt) (.c _ _ (.c _ _ (.v _ rfl)))⟩
      rw [e1, e2]
      simp [Instr.index, asIntOf, run_underlying ht, h2, hlt]
    · exact h.elim
  · exact OpRes.value (extract_ok hM (hρ _) h)
  · exact OpRes.value (makeMap_ok hM h)
  · exact OpRes.value (lookup_ok (P := P) hM (hρ _) (hρ _) h)
  · obtain ⟨w', h1, h2⟩ := mapUpdate_ok (P := P) hM (hρ _) (hρ _) (hρ _) h
    exact .inr (.inl ⟨w', by simp [execOp, h1], h2⟩)
  · exact OpRes.value (range_ok (P := P) hM (hρ _) h)
  · exact OpRes.value (next_ok (P := P) hM (hρ _) h)
  · exact OpRes.value (entry_ok (P := P) hM (hρ _) h)
  · rename_i c
    obtain ⟨callee, args, argTypes⟩ := c
    obtain ⟨p1, p2⟩ := map_eval hρ args.toList
    split at h
    · rename_i b hb
      simp only at hb
      subst hb
      have := builtin_ok (ty := type) (cs := args.map fun | .const _ => true | _ => false) hM p1 p2 h
      have e : (execOp ev ⟨dst, .call ⟨.builtin b, args, argTypes⟩, type, pos, after, guard⟩).run P w = (builtin b argTypes.toList.toArray type (args.map fun | .const _ => true | _ => false) (args.toList.map ev).toArray).run P w := by
        simp [execOp, resolve, invoke]
        congr 2
        apply Array.ext'; simp
      rw [e]; exact this
    · rename_i f hf
      simp only at hf
      subst hf
      split at h
      · rename_i ff first caps hfn
        have hf := hρ f
        rw [hfn] at hf
        have key : ∃ us vs : Array Value, ev f = .func (.func ff) vs us ∧ (vs.toList ++ args.toList.map ev ++ us.toList).length = (first ++ args.toList.map ρ ++ caps).length ∧
            ∀ (i : Nat) d u, (first ++ args.toList.map ρ ++ caps)[i]? = some d → (vs.toList ++ args.toList.map ev ++ us.toList)[i]? = some u → Tv g (Ok F g M w) w d u := by
          have glue : ∀ {us vs : Array Value}, vs.size = first.length → us.size = caps.length → (∀ (i : Nat) d u, first[i]? = some d → vs[i]? = some u → Tc g (Ok F g M w) w d u) → (∀ (i : Nat) d u, caps[i]? = some d → us[i]? = some u → Tc g (Ok F g M w) w d u) →
              (vs.toList ++ args.toList.map ev ++ us.toList).length = (first ++ args.toList.map ρ ++ caps).length ∧
              ∀ (i : Nat) d u, (first ++ args.toList.map ρ ++ caps)[i]? = some d → (vs.toList ++ args.toList.map ev ++ us.toList)[i]? = some u → Tv g (Ok F g M w) w d u := by
            intro us vs h1 h2 h3 h4
            refine ⟨by simp [h1, h2], fun i d u hd hu => ?_⟩
            by_cases a1 : i < first.length
            · rw [List.append_assoc, List.getElem?_append_left a1] at hd
              rw [List.append_assoc, List.getElem?_append_left (by simpa [h1] using a1)] at hu
              exact .c _ _ (h3 i d u hd (by simpa using hu))
            · by_cases a2 : i < first.length + args.toList.length
              · rw [List.getElem?_append_left (by simpa using a2), List.getElem?_append_right (by omega)] at hd
                rw [List.getElem?_append_left (by simp [h1]; simpa using a2), List.getElem?_append_right (by simp [h1]; omega)] at hu
                rw [show vs.toList.length = first.length from by simp [h1]] at hu
                exact p2 _ d u hd hu
              · rw [List.getElem?_append_right (by simp at a2 ⊢; omega)] at hd
                rw [List.getElem?_append_right (by simp [h1] at a2 ⊢; omega)] at hu
                have e1 : (vs.toList ++ args.toList.map ev).length = (first ++ args.toList.map ρ).length := by simp [h1]
                rw [e1] at hu
                exact .c _ _ (h4 _ d u hd (by simpa using hu))
          generalize ev f = q at hf
          cases hf.cell rfl with
          | c _ _ hr => cases hr with
            | fn _ _ _ us vs hl hs hff hrr => exact ⟨us, vs, rfl, glue hl hs (fun i d u a b => .c _ _ (hff i d u a b)) (fun i d u a b => .c _ _ (hrr i d u a b))⟩
          | fn _ _ _ us vs hl hs hff hrr => exact ⟨us, vs, rfl, glue hl hs hff hrr⟩
        obtain ⟨us, vs, he, hl, hr⟩ := key
        obtain ⟨k1, k2⟩ := call_ok hK hM hl hr h
        refine .inr (.inr ⟨ff, _, ?_, k2⟩)
        have e : (vs ++ args.map ev ++ us) = (vs.toList ++ args.toList.map ev ++ us.toList).toArray := by apply Array.ext'; simp
        simp only [execOp, resolve, he, Deferred.ofValue, pure_bind, invoke]
        rw [e]; exact k1
      · exact h.elim
    · exact h.elim
  · exact h.elim

end Go.Abs

/- The abstract machine, twelfth part: states, regions, code. -/
set_option linter.unusedVariables false
set_option linter.unusedSimpArgs false
namespace Go.Abs
open Go

def opd (s : S) : Operand → D
  | .tmp t => s.env t
  | .const (.agg cs) => if (cs.toList.map cellD).all isCell then .agg (cs.toList.map cellD) else .junk
  | .const v => cellD v
  | .func f => .fn f [] []
  | .global _ => .junk

theorem opd_ok {F : Fr} {s : S} {a : Act} {w : World} {g : Nat → Option GI} {A : Nat → Prop} (h : ∀ t, Tv g A w (s.env t) (a.tmps.getD t undef)) (x : Operand) : Tv g A w (opd s x) (a.eval x) := by
  have hc : ∀ v : Value, Tv g A w (cellD v) v := by
    intro v
    by_cases hh : isCell (cellD v) = true
    · exact .c _ _ (.c _ _ (cellD_ok hh))
    · have : cellD v = .junk := by
        unfold cellD at hh ⊢
        split
        · simp [isCell] at hh
        · split
          · rename_i hf; simp [hf, isCell] at hh
          · rfl
      rw [this]; exact .junk _
  cases x with
  | tmp t => exact h t
  | const v =>
    cases v with
    | agg cs =>
      simp only [opd]
      split
      · rename_i hall
        refine .agg _ _ (by simp) fun i d u hd hu => ?_
        simp only [List.getElem?_map, Array.getElem?_toList] at hd
        rw [hu] at hd
        simp only [Option.map_some, Option.some.injEq] at hd
        subst hd
        refine .c _ _ (cellD_ok ?_)
        rw [List.all_eq_true] at hall
        exact hall _ (List.mem_map.2 ⟨u, by simpa using Array.mem_of_getElem? hu, rfl⟩)
      · exact .junk _
    | bool b => exact hc (.bool b)
    | int k b => exact hc (.int k b)
    | float k b => exact hc (.float k b)
    | complex k b c => exact hc (.complex k b c)
    | string b => exact hc (.string b)
    | pointer b => exact hc (.pointer b)
    | slice b c d => exact hc (.slice b c d)
    | map b => exact hc (.map b)
    | chan b => exact hc (.chan b)
    | func b c d => exact hc (.func b c d)
    | nilFunc => exact hc .nilFunc
    | iface b c => exact hc (.iface b c)
    | nilIface => exact hc .nilIface
    | tuple b => exact hc (.tuple b)
  | func f => exact .c _ _ (.c _ _ (.fn f [] [] #[] #[] rfl rfl (by simp) (by simp)))
  | global g => exact .junk _

def S.put (s : S) (dst : Option Tmp) (d : D) (M : Mem) : S :=
  { s with env := (match dst with | some t => upd s.env t d | none => s.env), mem := M }

theorem Inv.put {F : Fr} {s : S} {a : Act} {w w' : World} {g g' : Nat → Option GI} {d : D} {v : Value} {M' : Mem} {dst : Option Tmp} (hd : a.defers = []) (hsz : a.tmps.size = F.n)
    (henv : ∀ t, Tv g (Ok F g s.mem w) w (s.env t) (a.tmps.getD t undef)) (hM : MemOk F g' M' w') (hL : Le g (Ok F g s.mem w) w g' (Ok F g' M' w') w') (hv : Tv g' (Ok F g' M' w') w' d v)
    (hlt : ∀ t, dst = some t → t < F.n) : Inv F (s.put dst d M') (a.put dst v) w' := by
  refine ⟨?_, ?_, g', hM, fun t => ?_⟩
  · cases dst <;> exact hd
  · cases dst <;> simp [Act.put, hsz]
  · cases dst with
    | none => exact (henv t).mono hL
    | some t' =>
      simp only [S.put, Act.put, upd]
      by_cases ht : t = t'
      · subst ht
        rw [if_pos rfl]
        have := hlt t rfl
        simp [Array.getD, this, hsz]
        exact hv
      · rw [if_neg ht]
        have e : (a.tmps.setIfInBounds t' v).getD t undef = a.tmps.getD t undef := by
          simp only [Array.getD_eq_getD_getElem?, Array.getElem?_setIfInBounds]
          rw [if_neg (fun h => ht h.symm)]
        rw [e]
        exact (henv t).mono hL

def stepOp (P : Program) (K : Kt) (n np : Nat) (ops : Array Oper) (o : Oper) (fid : Nat) (s : S) (Q : S → Prop) : Prop :=
  (match o.dst with | some t => t < n | none => True) ∧
  match o.guard with
  | none => sem P K np o.op (opd s) s.mem fid fun d M => Q (s.put o.dst d M)
  | some (j, want) => match (ops[j]?).bind (·.dst) with
    | some t => match s.env t with
      | .v (.bool b) => (b = want → sem P K np o.op (opd s) s.mem fid fun d M => Q (s.put o.dst d M)) ∧ (b = !want → Q (s.put o.dst (.tup []) s.mem))
      | .tup [] => Q (s.put o.dst (.tup []) s.mem)
      | _ => False
    | none => False

theorem step_ok {P : Program} {K : Kt} (hK : KOk P K) {F : Fr} {s : S} {a : Act} {w : World} {ops : Array Oper} {o : Oper} {fid : Nat} {Q : S → Prop} (hI : Inv F s a w) (h : stepOp P K F.n F.np ops o fid s Q)
    {K' : Act → World → Prop} {QQ : Exit → Act → World → Prop} (hk : ∀ s' a' w', Inv F s' a' w' → Q s' → K' a' w') :
    if Region.wanted o (yielded ops a.tmps) then o.wp P a w K' QQ else K' (a.put o.dst undef) w := by
  obtain ⟨hd, hsz, g, hM, henv⟩ := hI
  obtain ⟨hdst, h⟩ := h
  have hlt : ∀ t, o.dst = some t → t < F.n := by
    intro t ht; rw [ht] at hdst; exact hdst
  have hskip : Q (s.put o.dst (.tup []) s.mem) → K' (a.put o.dst undef) w := fun hq =>
    hk _ _ _ (Inv.put hd hsz henv hM (Le.refl _ _ _) (.tup [] #[] rfl (by simp)) hlt) hq
  have hrun : (sem P K F.np o.op (opd s) s.mem fid fun d M => Q (s.put o.dst d M)) → o.wp P a w K' QQ := by
    intro h
    have := op_ok hK hM (o := o) (ρ := opd s) (ev := a.eval) (fun x => opd_ok (F := F) henv x) h
    unfold Oper.wp
    have put : ∀ {v w'}, SR F g s.mem w (fun d M => Q (s.put o.dst d M)) v w' → K' (a.put o.dst v) w' := by
      rintro v w' ⟨d, M', g', hq, hM', hL, hv⟩
      exact hk _ _ _ (Inv.put hd hsz henv hM' hL hv hlt) hq
    rcases this with ⟨v, w', he, hs⟩ | ⟨w', he, hs⟩ | ⟨f, args, he, hc⟩
    · rw [he]; exact put hs
    · rw [he]; exact put hs
    · rw [he]
      exact hc.mono (by rintro e w' ⟨v, rfl, hs⟩; exact put hs)
  split at h
  · rename_i hg
    rw [if_pos (by simp [Region.wanted, hg])]
    exact hrun h
  · rename_i j want hg
    split at h
    · rename_i t ht
      have ht' := henv t
      split at h
      · rename_i b hb
        rw [hb] at ht'
        have hval : a.tmps.getD t undef = .bool b := by
          cases ht'.cell rfl with | c _ _ hr => generalize a.tmps.getD t undef = q at hr; cases hr; rfl
        have hy : yielded ops a.tmps j = some b := by
          unfold yielded
          rw [ht]
          simp only [Option.bind_some]
          have : a.tmps[t]? = some (.bool b) := by
            rw [Array.getD_eq_getD_getElem?] at hval
            cases hq : a.tmps[t]? with
            | none => rw [hq] at hval; simp [undef] at hval
            | some q => rw [hq] at hval; simp at hval; rw [hval]
          rw [this]
        by_cases hbw : b = want
        · rw [if_pos (by simp [Region.wanted, hg, hy, hbw])]
          exact hrun (h.1 hbw)
        · rw [if_neg (by simp [Region.wanted, hg, hy, hbw])]
          exact hskip (h.2 (by cases b <;> cases want <;> simp_all))
      · rename_i hb
        rw [hb] at ht'
        have hval : a.tmps.getD t undef = .tuple #[] := by
          generalize a.tmps.getD t undef = q at ht'
          cases ht' with
          | c _ _ hh => cases hh with | c _ _ hh => cases hh
          | tup _ us hl hr => simp at hl; simp [hl]
        have hy : yielded ops a.tmps j = none := by
          unfold yielded
          rw [ht]
          simp only [Option.bind_some]
          rw [Array.getD_eq_getD_getElem?] at hval
          cases hq : a.tmps[t]? with
          | none => rfl
          | some q => rw [hq] at hval; simp at hval; rw [hval]
        rw [if_neg (by simp [Region.wanted, hg, hy])]
        exact hskip h
      · exact h.elim
    · exact h.elim

/-- The operations of a region, in the order of the text. -/
def runOps (P : Program) (K : Kt) (n np : Nat) (ops : Array Oper) : List Oper → Nat → S → (S → Prop) → Prop
  | [], _, s, Q => Q s
  | o :: l, fid, s, Q => stepOp P K n np ops o fid s fun s' => runOps P K n np ops l (fid + 4) s' Q

theorem runOps_ok {P : Program} {K : Kt} (hK : KOk P K) {F : Fr} {ops : Array Oper} {QQ : Exit → Act → World → Prop} : ∀ (l : List Oper) (fid : Nat) (s : S) (a : Act) (w : World) (Q : S → Prop), Inv F s a w → runOps P K F.n F.np ops l fid s Q →
    (∀ s' a' w', Inv F s' a' w' → Q s' → QQ .normal a' w') → wpList P ops QQ l a w
  | [], fid, s, a, w, Q, hI, h, hk => hk _ _ _ hI h
  | o :: l, fid, s, a, w, Q, hI, h, hk => wpList_step fun K' hK' => step_ok hK hI h fun s' a' w' hI' h' => hK' _ _ (runOps_ok hK l _ s' a' w' Q hI' h' hk)

def Lift (F : Fr) (Q : Exit → S → Prop) : Exit → Act → World → Prop := fun e a w => ∃ s, Inv F s a w ∧ Q e s

/-- Code leads from a state to what Q says. -/
def AW (P : Program) (n np : Nat) (c : Code) (Q : Exit → S → Prop) (s : S) : Prop :=
  ∀ F a w, F.n = n → F.np = np → Inv F s a w → c.wp P (Lift F Q) a w

section rules
variable {P : Program} {n np : Nat} {Q : Exit → S → Prop} {s : S}

theorem aw_region {K : Kt} (hK : KOk P K) {id : Nat} {ops : List Oper} (h : runOps P K n np ops.toArray ops s.nx s fun s' => Q .normal { s' with nx := s.nx + 4 * ops.length }) : AW P n np (.region id ops.toArray false) Q s := by
  intro F a w hn hnp hI
  subst hn; subst hnp
  refine wp_region_lit ?_
  refine runOps_ok hK ops s.nx s a w _ hI h fun s' a' w' hI' hq => ⟨_, ?_, hq⟩
  exact hI'

theorem aw_mono {c : Code} {Q' : Exit → S → Prop} (h : AW P n np c Q s) (hq : ∀ e s, Q e s → Q' e s) : AW P n np c Q' s :=
  fun F a w h1 h2 hI => wp_mono (h F a w h1 h2 hI) fun e a w ⟨s', i, q⟩ => ⟨s', i, hq _ _ q⟩

def thenQ (R : S → Prop) (Q : Exit → S → Prop) : Exit → S → Prop
  | .normal, s => R s
  | e, s => Q e s

theorem aw_seq {x y : Code} (h : AW P n np x (thenQ (AW P n np y Q) Q) s) : AW P n np (.seq x y) Q s := by
  intro F a w hn hnp hI
  refine wp_seq (wp_mono (h F a w hn hnp hI) ?_)
  rintro e a' w' ⟨s', hI', hq⟩
  cases e with
  | normal => exact hq F a' w' hn hnp hI'
  | _ => exact ⟨s', hI', hq⟩

/-- A cut: what holds between two pieces. -/
theorem aw_cut (R : S → Prop) {x y : Code} (h1 : AW P n np x (thenQ R Q) s) (h2 : ∀ s', R s' → AW P n np y Q s') : AW P n np (.seq x y) Q s :=
  aw_seq (aw_mono h1 fun e s' hq => by cases e <;> first | exact h2 _ hq | exact hq)

theorem aw_skip (h : Q .normal s) : AW P n np .skip Q s := fun F a w _ _ hI => wp_skip ⟨s, hI, h⟩
theorem aw_ret (h : Q .ret s) : AW P n np .ret Q s := fun F a w _ _ hI => wp_ret ⟨s, hI, h⟩
theorem aw_exit {id : Nat} (h : Q (.exit id) s) : AW P n np (.exit id) Q s := fun F a w _ _ hI => wp_exit ⟨s, hI, h⟩

theorem aw_cond {c : Operand} {x y : Code} {b : Bool} (hc : opd s c = .v (.bool b)) (ht : b = true → AW P n np x Q s) (hf : b = false → AW P n np y Q s) : AW P n np (.cond c x y) Q s := by
  intro F a w hn hnp hI
  have he : a.eval c = .bool b := by
    obtain ⟨_, _, g, _, henv⟩ := hI
    have := opd_ok (F := F) henv c
    rw [hc] at this
    cases this.cell rfl with | c _ _ hr => generalize a.eval c = q at hr; cases hr; rfl
  exact wp_cond_split he (fun h => ht h F a w hn hnp hI) (fun h => hf h F a w hn hnp hI)

def blockQ (id : Nat) (Q : Exit → S → Prop) : Exit → S → Prop
  | .exit id', s => if id' = id then Q .normal s else Q (.exit id') s
  | e, s => Q e s

theorem aw_block {id : Nat} {c : Code} (h : AW P n np c (blockQ id Q) s) : AW P n np (.block id c) Q s := by
  intro F a w hn hnp hI
  refine wp_block (wp_mono (h F a w hn hnp hI) ?_)
  rintro e a' w' ⟨s', hI', hq⟩
  cases e with
  | exit id' =>
    simp only [blockQ] at hq
    simp only [Exit.inBlock]
    split
    · rename_i he; rw [if_pos he] at hq; exact ⟨s', hI', hq⟩
    · rename_i he; rw [if_neg he] at hq; exact ⟨s', hI', hq⟩
  | _ => exact ⟨s', hI', hq⟩

/-- One state says no more than another one. -/
def Weak (n np : Nat) (s t : S) : Prop := ∀ F a w, F.n = n → F.np = np → Inv F s a w → Inv F t a w

theorem Weak.refl (s : S) : Weak n np s s := fun _ _ _ _ _ h => h
theorem Weak.trans {s t u : S} (h : Weak n np s t) (k : Weak n np t u) : Weak n np s u := fun F a w h1 h2 hI => k F a w h1 h2 (h F a w h1 h2 hI)

theorem aw_weak {c : Code} {t : S} (hw : Weak n np s t) (h : AW P n np c Q t) : AW P n np c Q s := fun F a w h1 h2 hI => h F a w h1 h2 (hw F a w h1 h2 hI)

/-- A loop, its invariant and measure over values of the prover's own. -/
theorem wp_loop_at {α : Type} {c : Code} {Q : Exit → Act → World → Prop} (I : α → Act → World → Prop) (μ : α → Nat) (x0 : α) {a : Act} {w : World} (h0 : I x0 a w)
    (round : ∀ x a w, I x a w → c.wp P (Exit.then (fun a' w' => ∃ x', I x' a' w' ∧ μ x' < μ x) Q) a w) : (Code.loop c).wp P Q a w := by
  intro b k cs
  have key : ∀ m x a w, μ x = m → I x a w → ∃ e a' w', Q e a' w' ∧ Arrives P (lone (b.at a (.code c :: .inLoop c :: k)) cs w) b k cs e a' w' := by
    intro m
    induction m using Nat.strongRecOn with
    | _ m ih =>
      intro x a w hm hI
      obtain ⟨e, a₁, w₁, hq, harr⟩ := round x a w hI b (.inLoop c :: k) cs
      cases e with
      | normal =>
        obtain ⟨x', hI₁, hlt⟩ := hq
        obtain ⟨e₂, a₂, w₂, hq₂, harr₂⟩ := ih (μ x') (hm ▸ hlt) x' a₁ w₁ rfl hI₁
        exact ⟨e₂, a₂, w₂, hq₂, .of_steps (Steps.trans harr (.one step_inLoop)) harr₂⟩
      | exit id => exact ⟨_, a₁, w₁, hq, .pass (x := .inLoop c) rfl (fun _ _ => .inl (by simp)) harr⟩
      | goto l => exact ⟨_, a₁, w₁, hq, .pass (x := .inLoop c) rfl (fun _ _ => .inl (by simp)) harr⟩
      | ret => exact ⟨_, a₁, w₁, hq, .pass (x := .inLoop c) rfl (fun _ _ => .inl (by simp)) harr⟩
      | panic ch => exact ⟨_, a₁, w₁, hq, .pass (x := .inLoop c) rfl (fun _ _ => .inl (by simp)) harr⟩
      | outgrown => exact ⟨_, a₁, w₁, hq, .pass (x := .inLoop c) rfl (fun _ _ => .inl (by simp)) harr⟩
  obtain ⟨e, a', w', hq, harr⟩ := key _ x0 a w rfl h0
  exact ⟨e, a', w', hq, .of_steps (.one step_loop) harr⟩

theorem aw_loop {α : Type} (I : α → S) (inv : α → Prop) (μ : α → Nat) (x0 : α) {c : Code} (h0 : inv x0) (hs : Weak n np s (I x0))
    (round : ∀ x, inv x → AW P n np c (thenQ (fun s' => ∃ x', inv x' ∧ μ x' < μ x ∧ Weak n np s' (I x')) Q) (I x)) : AW P n np (.loop c) Q s := by
  intro F a w hn hnp hI
  refine wp_loop_at (fun x a w => inv x ∧ Inv F (I x) a w) μ x0 ⟨h0, hs F a w hn hnp hI⟩ fun x a w ⟨hx, hI⟩ => wp_mono (round x hx F a w hn hnp hI) ?_
  rintro e a' w' ⟨s', hI', hq⟩
  cases e with
  | normal =>
    obtain ⟨x', h1, h2, h3⟩ := hq
    exact ⟨x', ⟨h1, h3 F a' w' hn hnp hI'⟩, h2⟩
  | _ => exact ⟨s', hI', hq⟩

end rules
end Go.Abs

/- The abstract machine, thirteenth part: states made weaker; a function's body keeps its contract. -/
set_option linter.unusedVariables false
set_option linter.unusedSimpArgs false
namespace Go.Abs
open Go

def envOf : List (Nat × D) → Nat → D
  | [], _ => .junk
  | (k, d) :: l, i => if i = k then d else envOf l i
def memOf : List (Nat × Ent) → Nat → Option Ent
  | [], _ => none
  | (k, e) :: l, i => if i = k then some e else memOf l i

def re0 (old : Nat → Nat) (M : Mem) : D → Option D
  | .v x => some (.v x)
  | .nils => some .nils
  | .sl sz es => some (.sl sz es)
  | .rp sz es i off => some (.rp sz es i off)
  | .fn f [] [] => some (.fn f [] [])
  | .row id => if (M id).isSome then some (.row (old id)) else none
  | .vw id o n => if (M id).isSome then some (.vw (old id) o n) else none
  | .elt id i o => if (M id).isSome then some (.elt (old id) i o) else none
  | .box id o => if (M id).isSome then some (.box (old id) o) else none
  | .mp id => if (M id).isSome then some (.mp (old id)) else none
  | .it id => if (M id).isSome then some (.it (old id)) else none
  | _ => none
def reD (old : Nat → Nat) (M : Mem) : D → Option D
  | .agg cs => (mapO (re0 old M) cs).map .agg
  | .tup ds => (mapO (re0 old M) ds).map .tup
  | .fn f x y => match mapO (re0 old M) x, mapO (re0 old M) y with
    | some x', some y' => some (.fn f x' y')
    | _, _ => none
  | d => re0 old M d
def reE (old : Nat → Nat) (M : Mem) : Ent → Option Ent
  | .cells cs => (mapO (reD old M) cs).map .cells
  | .row sz es ex => some (.row sz es ex)
  | .map kvs ex => some (.map kvs ex)
  | .iter left last => some (.iter left last)
  | .rmap kvs => (mapO (fun p => if (M p.2).isSome then some (p.1, old p.2) else none) kvs).map .rmap
  | _ => none

/-- The ghosts of a state that was made weaker. -/
def reG (old : Nat → Nat) (M : Mem) (g : Nat → Option GI) : Nat → Option GI := fun j => if (M j).isSome then g (old j) else none

theorem re0_ok {old : Nat → Nat} {M : Mem} {g : Nat → Option GI} {A A' : Nat → Prop} {w : World} (hA : ∀ b, A b → A' b) {d d' : D} {u : Value} (h : re0 old M d = some d') (hv : Tc g A w d' u) : Tc (reG old M g) A' w d u := by
  have hr : ∀ {d u}, Rc A w d u → Tc (reG old M g) A' w d u := fun h => .c _ _ (h.mono fun b hb => ⟨hA b hb, rfl⟩)
  unfold re0 at h
  split at h <;> try (simp only [Option.some.injEq, reduceCtorEq] at h)
  · subst h; cases hv with | c _ _ h => exact hr h
  · subst h; cases hv with | c _ _ h => exact hr h
  · subst h; cases hv with | c _ _ h => exact hr h
  · subst h; cases hv with | c _ _ h => exact hr h
  · subst h
    cases hv with
    | c _ _ h => exact hr h
    | fn _ _ _ us vs hl hs _ _ => exact .fn _ [] [] us vs hl hs (by simp) (by simp)
  · split at h
    · rename_i id hm; cases h
      cases hv with
      | c _ _ h => cases h
      | row _ gi a c hg hn hc ha => exact .row id gi a c (by simp [reG, hm, hg]) hn hc ha
    · cases h
  · split at h
    · rename_i id o n hm; cases h
      cases hv with
      | c _ _ h => cases h
      | vw _ _ _ gi a c hg ho hn ha => exact .vw id o n gi a c (by simp [reG, hm, hg]) ho hn ha
    · cases h
  · split at h
    · rename_i id i o hm; cases h
      cases hv with
      | c _ _ h => cases h
      | elt _ _ _ gi hg hi => exact .elt id i o gi (by simp [reG, hm, hg]) hi
    · cases h
  · split at h
    · rename_i id o hm; cases h
      cases hv with
      | c _ _ h => cases h
      | box _ _ gi hg => exact .box id o gi (by simp [reG, hm, hg])
    · cases h
  · split at h
    · rename_i id hm; cases h
      cases hv with
      | c _ _ h => cases h
      | mp _ gi hg => exact .mp id gi (by simp [reG, hm, hg])
    · cases h
  · split at h
    · rename_i id hm; cases h
      cases hv with
      | c _ _ h => cases h
      | it _ gi hg => exact .it id gi (by simp [reG, hm, hg])
    · cases h

theorem mapO_get' {α β : Type} {f : α → Option β} {l : List α} {l' : List β} (h : mapO f l = some l') {i : Nat} {x : α} (hi : l[i]? = some x) : ∃ y, l'[i]? = some y ∧ f x = some y := by
  have hlt : i < l'.length := by
    rw [mapO_length h]
    rcases Nat.lt_or_ge i l.length with h | h
    · exact h
    · simp [List.getElem?_eq_none h] at hi
  obtain ⟨x', h1, h2⟩ := mapO_get h (List.getElem?_eq_getElem hlt)
  rw [hi] at h1; cases h1
  exact ⟨_, List.getElem?_eq_getElem hlt, h2⟩

theorem reD_tc {old : Nat → Nat} {M : Mem} {g : Nat → Option GI} {A A' : Nat → Prop} {w : World} (hA : ∀ b, A b → A' b) {d d' : D} {u : Value} (h : reD old M d = some d') (hv : Tc g A w d' u) : Tc (reG old M g) A' w d u := by
  unfold reD at h
  split at h
  · rename_i cs; obtain ⟨x, _, rfl⟩ := Option.map_eq_some_iff.1 h; cases hv with | c _ _ h => cases h
  · rename_i cs; obtain ⟨x, _, rfl⟩ := Option.map_eq_some_iff.1 h; cases hv with | c _ _ h => cases h
  · rename_i f x y
    split at h
    · rename_i x' y' h1 h2
      cases h
      have glue : ∀ {us vs : Array Value}, vs.size = x'.length → us.size = y'.length → (∀ (i : Nat) d u, x'[i]? = some d → vs[i]? = some u → Tc g A w d u) → (∀ (i : Nat) d u, y'[i]? = some d → us[i]? = some u → Tc g A w d u) →
          Tc (reG old M g) A' w (.fn f x y) (.func (.func f) vs us) := by
        intro us vs p1 p2 p3 p4
        refine .fn f x y us vs (by rw [p1, mapO_length h1]) (by rw [p2, mapO_length h2]) (fun i d u hd hu => ?_) (fun i d u hd hu => ?_)
        · obtain ⟨q, q1, q2⟩ := mapO_get' h1 hd; exact re0_ok hA q2 (p3 i q u q1 hu)
        · obtain ⟨q, q1, q2⟩ := mapO_get' h2 hd; exact re0_ok hA q2 (p4 i q u q1 hu)
      cases hv with
      | c _ _ hr => cases hr with
        | fn _ _ _ us vs hl hs hf hr => exact glue hl hs (fun i d u a b => .c _ _ (hf i d u a b)) (fun i d u a b => .c _ _ (hr i d u a b))
      | fn _ _ _ us vs hl hs hf hr => exact glue hl hs hf hr
    · simp at h
  · exact re0_ok hA h hv

theorem reD_ok {old : Nat → Nat} {M : Mem} {g : Nat → Option GI} {A A' : Nat → Prop} {w : World} (hA : ∀ b, A b → A' b) {d d' : D} {u : Value} (h : reD old M d = some d') (hv : Tv g A w d' u) : Tv (reG old M g) A' w d u := by
  cases hv with
  | c _ _ hc => exact .c _ _ (reD_tc hA h hc)
  | agg cs us hl hr =>
    unfold reD at h
    split at h
    · rename_i cs'
      obtain ⟨x, hx, he⟩ := Option.map_eq_some_iff.1 h
      cases he
      refine .agg _ _ (by rw [hl, mapO_length hx]) fun i d u hd hu => ?_
      obtain ⟨q, q1, q2⟩ := mapO_get' hx hd
      exact re0_ok hA q2 (hr i q u q1 hu)
    · obtain ⟨x, hx, he⟩ := Option.map_eq_some_iff.1 h; cases he
    · split at h <;> simp at h
    · unfold re0 at h; split at h <;> first | (simp at h; done) | (split at h <;> simp at h)
  | tup ds us hl hr =>
    unfold reD at h
    split at h
    · obtain ⟨x, hx, he⟩ := Option.map_eq_some_iff.1 h; cases he
    · rename_i cs'
      obtain ⟨x, hx, he⟩ := Option.map_eq_some_iff.1 h
      cases he
      refine .tup _ _ (by rw [hl, mapO_length hx]) fun i d u hd hu => ?_
      obtain ⟨q, q1, q2⟩ := mapO_get' hx hd
      have hq := hr i q u q1 hu
      cases hq with
      | c _ _ hc => exact .c _ _ (re0_ok hA q2 hc)
      | agg => unfold re0 at q2; split at q2 <;> first | (simp at q2; done) | (split at q2 <;> simp at q2)
      | tup => unfold re0 at q2; split at q2 <;> first | (simp at q2; done) | (split at q2 <;> simp at q2)
      | junk => unfold re0 at q2; split at q2 <;> first | (simp at q2; done) | (split at q2 <;> simp at q2)
    · split at h <;> simp at h
    · unfold re0 at h; split at h <;> first | (simp at h; done) | (split at h <;> simp at h)
  | junk u =>
    unfold reD at h
    split at h
    · obtain ⟨x, hx, he⟩ := Option.map_eq_some_iff.1 h; cases he
    · obtain ⟨x, hx, he⟩ := Option.map_eq_some_iff.1 h; cases he
    · split at h <;> simp at h
    · unfold re0 at h; split at h <;> first | (simp at h; done) | (split at h <;> simp at h)

theorem memOf_mem : ∀ {l : List (Nat × Ent)} {i : Nat} {e : Ent}, memOf l i = some e → (i, e) ∈ l
  | (k, e') :: l, i, e, h => by
    simp only [memOf] at h
    split at h
    · rename_i hk; cases h; subst hk; exact List.mem_cons_self
    · exact List.mem_cons_of_mem _ (memOf_mem h)
theorem envOf_mem : ∀ {l : List (Nat × D)} {i : Nat}, envOf l i = .junk ∨ (i, envOf l i) ∈ l
  | [], _ => .inl rfl
  | (k, d) :: l, i => by
    simp only [envOf]
    split
    · rename_i hk; subst hk; exact .inr List.mem_cons_self
    · rcases envOf_mem (l := l) (i := i) with h | h
      · exact .inl h
      · exact .inr (List.mem_cons_of_mem _ h)

/-- A state with other identities, that forgets the rest. -/
theorem weak_re {n np : Nat} {s : S} (old : Nat → Nat) (el : List (Nat × D)) (ml : List (Nat × Ent)) (nx : Nat)
    (he : ∀ p, p ∈ el → reD old (memOf ml) p.2 = some (s.env p.1)) (hm : ∀ p, p ∈ ml → reE old (memOf ml) p.2 = s.mem (old p.1) ∧ (reE old (memOf ml) p.2).isSome = true ∧ (np ≤ p.1 → np ≤ old p.1))
    (hd : ∀ p q, p ∈ ml → q ∈ ml → old p.1 = old q.1 → p.1 = q.1) (hp : ∀ j, j < np → s.mem j = none ∨ ((memOf ml j).isSome = true ∧ old j = j)) :
    Weak n np s ⟨envOf el, memOf ml, nx⟩ := by
  intro F a w hn hnp hI
  subst hn; subst hnp
  obtain ⟨h1, h2, g, hM, henv⟩ := hI
  -- what an entry was
  have hent : ∀ {j e}, memOf ml j = some e → ∃ e0 gi, s.mem (old j) = some e0 ∧ reE old (memOf ml) e = some e0 ∧ g (old j) = some gi ∧ EntOk g (Ok F g s.mem w) w gi e0 ∧ e0.ex = e.ex ∧ (F.np ≤ j → F.np ≤ old j) := by
    intro j e hj
    obtain ⟨q1, q2, q3⟩ := hm _ (memOf_mem hj)
    obtain ⟨e0, he0⟩ := Option.isSome_iff_exists.1 q2
    simp only at q1 q2 q3 he0
    rw [he0] at q1
    obtain ⟨gi, hg, hE⟩ := hM.ent _ _ q1.symm
    refine ⟨e0, gi, q1.symm, he0, hg, hE, ?_, q3⟩
    cases e <;> simp only [reE] at he0 <;> first
      | (obtain ⟨x, _, rfl⟩ := Option.map_eq_some_iff.1 he0; rfl)
      | (cases he0; rfl)
      | simp at he0
  have hgj : ∀ {j e gi}, memOf ml j = some e → reG old (memOf ml) g j = some gi → g (old j) = some gi := by
    intro j e gi hj hg
    simpa [reG, hj] using hg
  have hOk : ∀ b, Ok F g s.mem w b → Ok F (reG old (memOf ml) g) (memOf ml) w b := by
    rintro b ⟨b1, b2, b3⟩
    refine ⟨b1, b2, fun id e gi hid hx hg hlv => ?_⟩
    obtain ⟨e0, gi0, q1, q2, q3, q4, q5, q6⟩ := hent hid
    exact b3 (old id) e0 gi q1 (by rw [q5]; exact hx) (hgj hid hg) hlv
  refine ⟨h1, h2, reG old (memOf ml) g, ⟨fun id e hid => ?_, fun id gi hg => ?_, fun i j ei ej gi gj hij hi hj hxi hxj hgi hgj' hli hlj => ?_, fun i e gi hi hx hg hlv => ?_, fun i e gi hnp hi hx hg hlv => ?_, hM.size, hM.old, hM.os, hM.tape, hM.output, hM.dr, hM.ioA, fun j b hb => ?_⟩, fun t => ?_⟩
  · obtain ⟨e0, gi, q1, q2, q3, q4, q5, q6⟩ := hent hid
    have hid' : memOf ml id = some e := hid
    refine ⟨gi, by simp [reG, hid', q3], ?_⟩
    cases e with
    | cells cs =>
      simp only [reE] at q2
      obtain ⟨x, hx, rfl⟩ := Option.map_eq_some_iff.1 q2
      obtain ⟨hl, c, T, k1, k2, k3⟩ := q4
      refine ⟨hl, c, T, k1, by rw [k2, mapO_length hx], fun i d u hd hu => ?_⟩
      obtain ⟨y, y1, y2⟩ := mapO_get' hx hd
      exact reD_tc hOk y2 (k3 i y u y1 hu)
    | row sz es ex =>
      simp only [reE, Option.some.injEq] at q2; subst q2
      obtain ⟨a0, a1, a2, a3, a4, a5⟩ := q4
      refine ⟨a0, a1, a2, a3, a4, fun hl => ?_⟩
      obtain ⟨b0, c, T, b1, b2, b3⟩ := a5 hl
      exact ⟨fun h => hOk _ (b0 h), c, T, b1, b2, fun i j e d u x y z => (b3 i j e d u x y z).mono fun b hb => ⟨hOk b hb, rfl⟩⟩
    | map kvs ex =>
      simp only [reE, Option.some.injEq] at q2; subst q2
      obtain ⟨hl, hA, es, k1, k2, k3⟩ := q4
      exact ⟨hl, fun h => hOk _ (hA h), es, k1, k2, k3.mono fun b hb => ⟨hOk b hb, rfl⟩⟩
    | iter left last =>
      simp only [reE, Option.some.injEq] at q2; subst q2
      obtain ⟨hl, mb, es, seen, k1, k2, k3, k4, k5, k6⟩ := q4
      refine ⟨hl, mb, es, seen, hOk _ k1, k2, k3, k4, k5.mono fun b hb => ⟨hOk b hb, rfl⟩, fun kv hk => ?_⟩
      obtain ⟨s0, e, j1, j2, j3, j4⟩ := k6 kv hk
      exact ⟨s0, e, j1, j2, j3.world fun b hb => ⟨hOk b hb, rfl⟩, j4.world fun b hb => ⟨hOk b hb, rfl⟩⟩
    | rmap kvs =>
      simp only [reE, Option.map_eq_some_iff] at q2
      obtain ⟨kvs0, hmap, rfl⟩ := q2
      obtain ⟨hl, es, k1, k2, k3, k4⟩ := q4
      have hlen := mapO_length hmap
      refine ⟨hl, es, k1, k2, by simpa [rows, hlen] using k3, fun i kv e hi he => ?_⟩
      simp only [rows, List.getElem?_map, Option.map_eq_some_iff] at hi
      obtain ⟨p, hp, rfl⟩ := hi
      obtain ⟨q, hq, hf⟩ := mapO_get' hmap hp
      split at hf
      · rename_i hs
        cases hf
        have := k4 i (p.1, .row (old p.2)) e (by simp [rows, hq]) he
        refine ⟨this.1.mono ⟨fun _ _ h => h, fun b hb => ⟨hOk b hb, rfl⟩⟩, ?_⟩
        exact .c _ _ (re0_ok hOk (d := .row p.2) (d' := .row (old p.2)) (by simp [re0, hs]) (this.2.cell rfl))
      · cases hf
    | dead => simp [reE] at q2
  · cases hq : memOf ml id with
    | none => simp [reG, hq] at hg
    | some e => exact ⟨e, hq⟩
  · obtain ⟨e1, g1, p1, p2, p3, p4, p5, p6⟩ := hent hi
    obtain ⟨e2, g2, q1, q2, q3, q4, q5, q6⟩ := hent hj
    exact hM.inj (old i) (old j) e1 e2 gi gj (fun h => hij (hd _ _ (memOf_mem hi) (memOf_mem hj) h)) p1 q1 (by rw [p5]; exact hxi) (by rw [q5]; exact hxj) (hgj hi hgi) (hgj hj hgj') hli hlj
  · obtain ⟨e1, g1, p1, p2, p3, p4, p5, p6⟩ := hent hi
    exact hM.lo (old i) e1 gi p1 (by rw [p5]; exact hx) (hgj hi hg) hlv
  · obtain ⟨e1, g1, p1, p2, p3, p4, p5, p6⟩ := hent hi
    exact hM.hi (old i) e1 gi (p6 hnp) p1 (by rw [p5]; exact hx) (hgj hi hg) hlv
  · obtain ⟨hj, gi, q1, q2⟩ := hM.par j b hb
    refine ⟨hj, gi, ?_, q2⟩
    rcases hp j hj with h | ⟨h, h'⟩
    · obtain ⟨e, he⟩ := hM.dom j gi q1; rw [h] at he; cases he
    · simp [reG, h, h', q1]
  · rcases envOf_mem (l := el) (i := t) with h | h
    · simp only [h]; exact .junk _
    · have := he _ h
      exact reD_ok hOk this (henv t)

theorem weak_mem {n np : Nat} {s : S} {M : Mem} (h : ∀ F g w, F.np = np → MemOk F g s.mem w → MemOk F g M w ∧ Le g (Ok F g s.mem w) w g (Ok F g M w) w) : Weak n np s { s with mem := M } := by
  rintro F a w hn hnp ⟨h1, h2, g, hM, henv⟩
  obtain ⟨k1, k2⟩ := h F g w hnp hM
  exact ⟨h1, h2, g, k1, fun t => (henv t).mono k2⟩

/-- The rows that a value bears are frozen. -/
theorem weak_frz {n np : Nat} {s : S} (d : D) : Weak n np s { s with mem := frz np s.mem d } :=
  weak_mem fun F g w hnp hM => by rw [← hnp]; exact frz_ok hM d

/-- A nil slice becomes a row of the call's own. -/
theorem weak_nil {n np : Nat} {s : S} (t f sz : Nat) (ht : s.env t = .nils) (hf : s.mem f = none) : Weak n np s ⟨upd s.env t (.row f), upd s.mem f (some (.row sz [] true)), s.nx⟩ := by
  rintro F a w hn hnp ⟨h1, h2, g, hM, henv⟩
  obtain ⟨k1, k2⟩ := hM.addNil hf sz
  refine ⟨h1, h2, _, k1, fun t' => ?_⟩
  simp only [upd]
  split
  · rename_i he; subst he
    have := henv t'
    rw [ht] at this
    generalize a.tmps.getD t' undef = q at this
    cases this.cell rfl with
    | c _ _ hr => cases hr with
      | nils => exact .c _ _ (.row f ⟨0, 0, sz, 0, false⟩ none 0 (by simp) (by simp) (by simp) (.inl rfl))
  · exact (henv t').mono k2

/-! ## A body keeps its contract -/
def resD (P : Program) (s : S) : ResultVar → Option D
  | .tmp t => some (s.env t)
  | .cell a t => match s.env a, agT P t, szT P t with
    | .box id off, some ag, some n => match s.mem id with
      | some (.cells cs) => if ag then (if off + n ≤ cs.length then some (.agg ((cs.drop off).take n)) else none) else cs[off]?
      | _ => none
    | _, _, _ => none

/-- What is frozen as it is handed back. -/
def frzR1 (np : Nat) (M : Mem) : D → Mem
  | .agg cs => frzL np M cs
  | .box id o => frz np M (.box id o)
  | .vw id a b => frz0 np M (.vw id a b)
  | .elt id a b => frz0 np M (.elt id a b)
  | _ => M
def frzR (np : Nat) : Mem → List D → Mem
  | M, [] => M
  | M, d :: l => frzR np (frzR1 np M d) l
def rdOf (np : Nat) (M : Mem) : D → Option RD
  | .row id => match M id with
    | some (.row sz es true) => if np ≤ id then some (.own sz es) else none
    | some (.row sz es false) => some (.d (.sl sz es))
    | _ => none
  | .box id 0 => match M id with
    | some (.cells cs) => if np ≤ id then (mapO (fz M false 1) cs).map .nbox else none
    | _ => none
  | .mp id => match M id with
    | some (.map kvs true) => if np ≤ id then some (.omap kvs) else none
    | _ => none
  | d => (fz M false 2 d).map .d
def ownId (M : Mem) : D → Option Nat
  | .row id => match M id with
    | some (.row _ _ true) => some id
    | _ => none
  | .box id 0 => some id
  | .mp id => some id
  | _ => none
def ioBoxes : List Bool → Nat → List D
  | [], _ => []
  | true :: ks, j => .box j 0 :: ioBoxes ks (j + 1)
  | false :: ks, j => ioBoxes ks (j + 1)
def ioOut (M : Mem) : List Bool → Nat → Option (List (List D))
  | [], _ => some []
  | true :: ks, j => match M j, ioOut M ks (j + 1) with
    | some (.cells cs), some r => (mapO (fz M false 1) cs).map (· :: r)
    | _, _ => none
  | false :: ks, j => ioOut M ks (j + 1)

def RetS (P : Program) (np : Nat) (kinds : List Bool) (rvs : List ResultVar) (post : Res → Prop) (s : S) : Prop :=
  ∃ ds, mapO (resD P s) rvs = some ds ∧ ∃ M, M = frzA np (frzR np s.mem ds) (ioBoxes kinds 0) ∧ ∃ rds ios, mapO (rdOf np M) ds = some rds ∧ ioOut M kinds 0 = some ios ∧ (ds.filterMap (ownId M)).Nodup ∧ post ⟨rds, ios⟩

def RetQ (P : Program) (np : Nat) (kinds : List Bool) (rvs : List ResultVar) (post : Res → Prop) : Exit → S → Prop
  | .normal, s => RetS P np kinds rvs post s
  | .ret, s => RetS P np kinds rvs post s
  | _, _ => False

def initS (al : List AD) : S where
  env := fun t => match al[t]? with
    | some (.d x) => x
    | some (.io _) => .box t 0
    | none => .junk
  mem := fun t => match al[t]? with
    | some (.io cs) => some (.cells cs)
    | _ => none
  nx := al.length

end Go.Abs

/- The abstract machine, fourteenth part: a function's body keeps its contract. -/
set_option linter.unusedVariables false
set_option linter.unusedSimpArgs false
namespace Go.Abs
open Go

def AD.isIo : AD → Bool
  | .io _ => true
  | .d _ => false

/-- The block of a parameter that is a variable. -/
def pbOf : List AD → List Nat → Nat → Option Nat
  | .d _ :: al, io, j + 1 => pbOf al io j
  | .io _ :: _, b :: _, 0 => some b
  | .io _ :: al, _ :: io, j + 1 => pbOf al io j
  | _, _, _ => none

theorem ArgsOk.length {A w al vs io} (h : ArgsOk A w al vs io) : vs.length = al.length := by
  induction h with
  | nil => rfl
  | d => simp_all
  | io => simp_all
theorem ArgsOk.d_at {A w al vs io} (h : ArgsOk A w al vs io) : ∀ (i : Nat) x, al[i]? = some (.d x) → ∃ v, vs[i]? = some v ∧ Rv A w x v := by
  induction h with
  | nil => intro i x h; simp at h
  | d x v al vs io h r ih =>
    intro i y hi
    cases i with
    | zero => simp at hi; subst hi; exact ⟨v, rfl, h⟩
    | succ i => exact ih i y (by simpa using hi)
  | io cs b c T al vs io hb hl hr r ih =>
    intro i y hi
    cases i with
    | zero => simp at hi
    | succ i => exact ih i y (by simpa using hi)
theorem ArgsOk.io_at {A w al vs io} (h : ArgsOk A w al vs io) : ∀ (i : Nat) cs, al[i]? = some (.io cs) → ∃ b c T, pbOf al io i = some b ∧ b ∈ io ∧ vs[i]? = some (.pointer (some ⟨b, 0, none⟩)) ∧
    w.heap[b]? = some (.cells c T (0, 0)) ∧ c.size = cs.length ∧ ∀ (i : Nat) d u, cs[i]? = some d → c[i]? = some u → Tc (fun _ => none) A w d u := by
  induction h with
  | nil => intro i x h; simp at h
  | d x v al vs io h r ih =>
    intro i cs hi
    cases i with
    | zero => simp at hi
    | succ i => exact ih i cs (by simpa using hi)
  | io cs b c T al vs io hb hl hr r ih =>
    intro i cs' hi
    cases i with
    | zero => simp at hi; subst hi; exact ⟨b, c, T, rfl, by simp, rfl, hb, hl, hr⟩
    | succ i =>
      obtain ⟨b', c', T', k1, k2, k3⟩ := ih i cs' (by simpa using hi)
      exact ⟨b', c', T', k1, List.mem_cons_of_mem _ k2, k3⟩
theorem ArgsOk.pb {A w al vs io} (h : ArgsOk A w al vs io) : ∀ (i : Nat) b, pbOf al io i = some b → b ∈ io ∧ i < al.length ∧ ∃ cs, al[i]? = some (.io cs) := by
  induction h with
  | nil => intro i b h; simp [pbOf] at h
  | d x v al vs io h r ih =>
    intro i b hi
    cases i with
    | zero => simp [pbOf] at hi
    | succ i => obtain ⟨k1, k2, k3⟩ := ih i b (by simpa [pbOf] using hi); exact ⟨k1, by simpa using k2, by simpa using k3⟩
  | io cs b' c T al vs io hb hl hr r ih =>
    intro i b hi
    cases i with
    | zero => simp [pbOf] at hi; subst hi; exact ⟨by simp, by simp, cs, rfl⟩
    | succ i => obtain ⟨k1, k2, k3⟩ := ih i b (by simpa [pbOf] using hi); exact ⟨List.mem_cons_of_mem _ k1, by simpa using k2, by simpa using k3⟩
theorem ArgsOk.pbinj {A w al vs io} (h : ArgsOk A w al vs io) (hn : io.Nodup) : ∀ (i j : Nat) b, pbOf al io i = some b → pbOf al io j = some b → i = j := by
  induction h with
  | nil => intro i j b h; simp [pbOf] at h
  | d x v al vs io h r ih =>
    intro i j b hi hj
    cases i with
    | zero => simp [pbOf] at hi
    | succ i => cases j with
      | zero => simp [pbOf] at hj
      | succ j => rw [ih hn i j b (by simpa [pbOf] using hi) (by simpa [pbOf] using hj)]
  | io cs b' c T al vs io hb hl hr r ih =>
    intro i j b hi hj
    rw [List.nodup_cons] at hn
    cases i with
    | zero => cases j with
      | zero => rfl
      | succ j =>
        simp [pbOf] at hi; subst hi
        exact absurd (r.pb j _ (by simpa [pbOf] using hj)).1 hn.1
    | succ i => cases j with
      | zero =>
        simp [pbOf] at hj; subst hj
        exact absurd (r.pb i _ (by simpa [pbOf] using hi)).1 hn.1
      | succ j => rw [ih hn.2 i j b (by simpa [pbOf] using hi) (by simpa [pbOf] using hj)]

theorem ArgsOk.ioOut {A w al vs io} (h : ArgsOk A w al vs io) {M : Mem} : ∀ (j : Nat) (ios : List (List D)), ioOut M (al.map AD.isIo) j = some ios →
    ios.length = io.length ∧ ∀ (k : Nat) b cs, io[k]? = some b → ios[k]? = some cs → ∃ i cs0, pbOf al io i = some b ∧ M (j + i) = some (.cells cs0) ∧ mapO (fz M false 1) cs0 = some cs := by
  induction h with
  | nil => intro j ios h; simp [Abs.ioOut] at h; subst h; exact ⟨rfl, by simp⟩
  | d x v al vs io h r ih =>
    intro j ios hh
    obtain ⟨k1, k2⟩ := ih (j + 1) ios (by simpa [Abs.ioOut, AD.isIo] using hh)
    refine ⟨k1, fun k b cs hb hc => ?_⟩
    obtain ⟨i, cs0, q1, q2, q3⟩ := k2 k b cs hb hc
    exact ⟨i + 1, cs0, by simpa [pbOf] using q1, by rw [show j + (i + 1) = j + 1 + i from by omega]; exact q2, q3⟩
  | io cs b' c T al vs io hb hl hr r ih =>
    intro j ios hh
    simp only [List.map_cons, AD.isIo, Abs.ioOut] at hh
    split at hh
    · rename_i cs0 r' hm hr'
      obtain ⟨cs1, h1, rfl⟩ := Option.map_eq_some_iff.1 hh
      obtain ⟨k1, k2⟩ := ih (j + 1) r' hr'
      refine ⟨by simp [k1], fun k b cs hb hc => ?_⟩
      cases k with
      | zero =>
        simp at hb hc; subst hb; subst hc
        exact ⟨0, cs0, rfl, hm, h1⟩
      | succ k =>
        obtain ⟨i, cs0, q1, q2, q3⟩ := k2 k b cs (by simpa using hb) (by simpa using hc)
        exact ⟨i + 1, cs0, by simpa [pbOf] using q1, by rw [show j + (i + 1) = j + 1 + i from by omega]; exact q2, q3⟩
    · simp at hh

theorem frzR1_ok {F : Fr} {g M w} (hM : MemOk F g M w) (d : D) : MemOk F g (frzR1 F.np M d) w ∧ Le g (Ok F g M w) w g (Ok F g (frzR1 F.np M d) w) w := by
  cases d with
  | agg cs => exact frzL_ok cs hM
  | box id o => exact frz_ok hM (.box id o)
  | vw id a b => exact frz0_ok hM (.vw id a b)
  | elt id a b => exact frz0_ok hM (.elt id a b)
  | _ => exact ⟨hM, Le.refl _ _ _⟩
theorem frzR_ok {F : Fr} {g w} : ∀ (l : List D) {M}, MemOk F g M w → MemOk F g (frzR F.np M l) w ∧ Le g (Ok F g M w) w g (Ok F g (frzR F.np M l) w) w
  | [], M, hM => ⟨hM, Le.refl _ _ _⟩
  | d :: l, M, hM => by
    obtain ⟨h1, h2⟩ := frzR1_ok hM d
    obtain ⟨h3, h4⟩ := frzR_ok l h1
    exact ⟨h3, h2.trans h4⟩

/-- Some cells of memory, read. -/
theorem readCells {P : Program} {g : Nat → Option GI} {A : Nat → Prop} {w : World} {t : TypeId} {ag : Bool} {n : Nat} (hag : agT P t = some ag) (hn : szT P t = some n) {b off : Nat} {cs : List D} {d : D}
    (hc : ∀ (j : Nat) d, cs[j]? = some d → ∃ u, w.cell? ⟨b, j, none⟩ = some u ∧ Tc g A w d u)
    (h : (if ag then (if off + n ≤ cs.length then some (.agg ((cs.drop off).take n)) else none) else cs[off]?) = some d) :
    ∃ v, (loadVar t ⟨b, off, none⟩).run P w = .ok v w ∧ Tv g A w d v := by
  cases ag with
  | true =>
    simp only [if_true] at h
    split at h
    · rename_i hle
      cases h
      have hX : ∀ j, ∃ u, j < n → w.cell? ⟨b, off + j, none⟩ = some u ∧ ∀ d, cs[off + j]? = some d → Tc g A w d u := by
        intro j
        by_cases hj : j < n
        · obtain ⟨u, hu, ht⟩ := hc (off + j) _ (List.getElem?_eq_getElem (by omega))
          exact ⟨u, fun _ => ⟨hu, fun d hd => by rw [List.getElem?_eq_getElem (by omega)] at hd; cases hd; exact ht⟩⟩
        · exact ⟨undef, fun h => absurd h hj⟩
      obtain ⟨X, hX⟩ := Classical.axiomOfChoice hX
      refine ⟨_, run_loadVar' hag hn X (fun j hj => (hX j (by simpa using hj)).1), ?_⟩
      simp only [if_true]
      refine .agg _ _ (by simp; omega) fun i d u hd hu => ?_
      by_cases hi : i < n
      · simp [hi] at hu
        rw [List.getElem?_take, if_pos hi, List.getElem?_drop] at hd
        rw [← hu]; exact (hX i hi).2 d hd
      · simp [hi] at hu
    · cases h
  | false =>
    simp only [Bool.false_eq_true, if_false] at h
    obtain ⟨u, hu, ht⟩ := hc off d h
    refine ⟨_, run_loadVar' hag hn (fun _ => u) (fun j hj => ?_), .c _ _ ht⟩
    have : j = 0 := by simpa using hj
    subst this; exact hu

def resV (tmps : Array Value) : ResultVar → Sem Value
  | .tmp t => pure (tmps.getD t undef)
  | .cell a t => do loadVar t (← asAddr (tmps.getD a undef))

theorem resD_ok {P : Program} {F : Fr} {s : S} {w : World} {g : Nat → Option GI} {tmps : Array Value} (hM : MemOk F g s.mem w) (henv : ∀ t, Tv g (Ok F g s.mem w) w (s.env t) (tmps.getD t undef)) {rv : ResultVar} {d : D} (h : resD P s rv = some d) :
    ∃ v, (resV tmps rv).run P w = .ok v w ∧ Tv g (Ok F g s.mem w) w d v := by
  cases rv with
  | tmp t => simp [resD] at h; subst h; exact ⟨_, rfl, henv t⟩
  | cell a t =>
    simp only [resD] at h
    split at h
    · rename_i id off ag n ha hag hn
      split at h
      · rename_i cs hm
        have hv := henv a
        rw [ha] at hv
        simp only [resV]
        generalize tmps.getD a undef = q at hv ⊢
        cases hv.cell rfl with
        | c _ _ h => cases h
        | box _ _ gi hg =>
          obtain ⟨gi', hg', hlv, c, T, h4, h5, h6⟩ := hM.ent id _ hm
          rw [hg] at hg'; cases hg'
          obtain ⟨v, h1, h2⟩ := readCells hag hn (b := gi.blk) (off := off) (cs := cs) (g := g) (A := Ok F g s.mem w) (w := w) (P := P) (fun j d hd => by
            have hlt : j < c.size := by
              rw [h5]
              rcases Nat.lt_or_ge j cs.length with h | h
              · exact h
              · simp [List.getElem?_eq_none h] at hd
            exact ⟨c[j], by rw [cell_of_row w _ _ c T (0, 0) h4]; simp [hlt], h6 j d _ hd (Array.getElem?_eq_getElem hlt)⟩) h
          exact ⟨v, by simp [asAddr, h1], h2⟩
      · cases h
    · cases h

theorem resAll_ok {P : Program} {F : Fr} {s : S} {w : World} {g : Nat → Option GI} {tmps : Array Value} (hM : MemOk F g s.mem w) (henv : ∀ t, Tv g (Ok F g s.mem w) w (s.env t) (tmps.getD t undef)) :
    ∀ (rvs : List ResultVar) (ds : List D), mapO (resD P s) rvs = some ds → ∃ vs, (rvs.mapM (resV tmps)).run P w = .ok vs w ∧ vs.length = ds.length ∧ ∀ (i : Nat) d u, ds[i]? = some d → vs[i]? = some u → Tv g (Ok F g s.mem w) w d u
  | [], ds, h => by simp [mapO] at h; subst h; exact ⟨[], by simp, rfl, by simp⟩
  | rv :: rvs, ds, h => by
    simp only [mapO] at h
    split at h
    · rename_i d ds' h1 h2
      cases h
      obtain ⟨v, k1, k2⟩ := resD_ok hM henv h1
      obtain ⟨vs, q1, q2, q3⟩ := resAll_ok hM henv rvs ds' h2
      refine ⟨v :: vs, by simp [List.mapM_cons, k1, q1], by simp [q2], fun i d u hd hu => ?_⟩
      cases i with
      | zero => simp at hd hu; subst hd; subst hu; exact k2
      | succ i => exact q3 i d u (by simpa using hd) (by simpa using hu)
    · simp at h

theorem run_results {P : Program} {fn : Func} {tmps : Array Value} {w : World} {vs : List Value} (h : (fn.results.toList.mapM (resV tmps)).run P w = .ok vs w) :
    (results fn tmps).run P w = .ok (if vs.length = 1 then vs.getD 0 undef else .tuple vs.toArray) w := by
  have e : (fn.results.mapM (resV tmps)).run P w = .ok vs.toArray w := by
    rw [Array.mapM_eq_mapM_toList, Sem.run_map, h]; rfl
  have e2 : results fn tmps = (do let vs ← fn.results.mapM (resV tmps); pure (if h : vs.size = 1 then vs[0] else .tuple vs)) := by
    unfold results
    congr 1
  rw [e2, Sem.run_bind, e]
  simp only [Result.andThen_ok, Sem.run_pure, List.size_toArray]
  by_cases h1 : vs.length = 1
  · obtain ⟨u, rfl⟩ := List.length_eq_one_iff.1 h1
    simp
  · simp [h1]

/-- One result, as it is handed back. -/
theorem rd_ok {F : Fr} {g : Nat → Option GI} {M : Mem} {w : World} (hM : MemOk F g M w) {d : D} {u : Value} (hv : Tv g (Ok F g M w) w d u) {rd : RD} (h : rdOf F.np M d = some rd) :
    ∃ gi? : Option GI, (∀ A : Nat → Prop, (∀ b, Ok F g M w b → A b) → RetOne A w rd gi? u) ∧
      ∀ gi, gi? = some gi → ∃ id e, ownId M d = some id ∧ M id = some e ∧ e.ex = true ∧ g id = some gi ∧ F.np ≤ id := by
  have byVal : (fz M false 2 d).map RD.d = some rd → ∃ gi? : Option GI, (∀ A : Nat → Prop, (∀ b, Ok F g M w b → A b) → RetOne A w rd gi? u) ∧
      ∀ gi, gi? = some gi → ∃ id e, ownId M d = some id ∧ M id = some e ∧ e.ex = true ∧ g id = some gi ∧ F.np ≤ id := by
    intro h
    obtain ⟨d', h1, rfl⟩ := Option.map_eq_some_iff.1 h
    refine ⟨none, fun A hA => ?_, by simp⟩
    show Rv A w d' u
    cases hv with
    | c _ _ hc => exact .c _ _ (.c _ _ (fz_ok hM hA (fun h => by simp at h) 2 hc.isCell hc h1))
    | agg cs us hl hr =>
      simp only [fz] at h1
      split at h1
      · rename_i cs' hcs
        cases h1
        refine .agg _ _ (by rw [hl, mapO_length hcs]) fun i d u hd hu => ?_
        obtain ⟨x, hx1, hx2⟩ := mapO_get hcs hd
        have ht := hr i x u hx1 hu
        exact .c _ _ (fz_ok hM hA (fun h => by simp at h) 1 ht.isCell ht hx2)
      · simp at h1
    | tup => simp [fz, fz0] at h1
    | junk => simp [fz, fz0] at h1
  unfold rdOf at h
  split at h
  · rename_i id
    split at h
    · rename_i sz es hm
      split at h
      · rename_i hnp
        cases h
        cases hv.cell rfl with
        | c _ _ h => cases h
        | row _ gi a c hg hn hc ha =>
          obtain ⟨gi', hg', hE⟩ := hM.ent id _ hm
          rw [hg] at hg'; cases hg'
          refine ⟨some gi, fun A hA => ⟨?_, a, c, rfl, hn, hc, ha⟩, fun gi' h => ?_⟩
          · obtain ⟨a0, a1, a2, a3, a4, a5⟩ := hE
            refine ⟨a0, a1, a2, a3, a4, fun hl => ?_⟩
            obtain ⟨_, c, T, b1, b2, b3⟩ := a5 hl
            exact ⟨fun h => by simp at h, c, T, b1, b2, fun i j e d u x y z => (b3 i j e d u x y z).mono fun b hb => ⟨hA b hb, rfl⟩⟩
          · cases h
            exact ⟨id, _, by simp [ownId, hm], hm, rfl, hg, hnp⟩
      · cases h
    · rename_i sz es hm
      cases h
      have hf : fz0 M false (.row id) = some (.sl sz es) := by simp [fz0, hm]
      refine ⟨none, fun A hA => ?_, by simp⟩
      exact .c _ _ (.c _ _ (fz0_ok hM hA (fun h => by simp at h) (hv.cell rfl) hf))
    · cases h
  · rename_i id
    split at h
    · rename_i cs hm
      split at h
      · rename_i hnp
        obtain ⟨cs', h1, rfl⟩ := Option.map_eq_some_iff.1 h
        cases hv.cell rfl with
        | c _ _ h => cases h
        | box _ _ gi hg =>
          obtain ⟨gi', hg', hlv, c, T, h4, h5, h6⟩ := hM.ent id _ hm
          rw [hg] at hg'; cases hg'
          refine ⟨some gi, fun A hA => ⟨⟨hlv, c, T, h4, by rw [h5, mapO_length h1], fun i d u hd hu => ?_⟩, rfl⟩, fun gi' h => ?_⟩
          · obtain ⟨x, hx1, hx2⟩ := mapO_get h1 hd
            have ht := h6 i x u hx1 hu
            exact .c _ _ (fz_ok hM hA (fun h => by simp at h) 1 ht.isCell ht hx2)
          · cases h
            exact ⟨id, _, rfl, hm, rfl, hg, hnp⟩
      · cases h
    · cases h
  · rename_i id
    split at h
    · rename_i kvs hm
      split at h
      · rename_i hnp
        cases h
        cases hv.cell rfl with
        | c _ _ h => cases h
        | mp _ gi hg =>
          obtain ⟨gi', hg', hlv, _, es, h4, h5, h6⟩ := hM.ent id _ hm
          rw [hg] at hg'; cases hg'
          refine ⟨some gi, fun A hA => ⟨⟨hlv, fun h => by simp at h, es, h4, h5, h6.mono fun b hb => ⟨hA b hb, rfl⟩⟩, rfl⟩, fun gi' h => ?_⟩
          cases h
          exact ⟨id, _, rfl, hm, rfl, hg, hnp⟩
      · cases h
    · cases h
  · exact byVal h

theorem ownId_get {M : Mem} {ds : List D} {rds : List RD} {np : Nat} (h : mapO (rdOf np M) ds = some rds) : rds.length = ds.length := mapO_length h

theorem nodup_filterMap {f : D → Option Nat} : ∀ {l : List D}, (l.filterMap f).Nodup → ∀ {i j : Nat} {x y : D} {a : Nat}, i ≠ j → l[i]? = some x → l[j]? = some y → f x = some a → f y ≠ some a
  | [], _, i, j, x, y, a, _, h, _, _ => by simp at h
  | d :: l, hn, i, j, x, y, a, hij, hi, hj, hx => by
    intro hy
    have mem : ∀ {k : Nat} {z : D}, l[k]? = some z → f z = some a → a ∈ l.filterMap f := fun hk hz => List.mem_filterMap.2 ⟨_, List.mem_of_getElem? hk, hz⟩
    cases i with
    | zero =>
      cases j with
      | zero => exact hij rfl
      | succ j =>
        simp at hi hj; subst hi
        rw [List.filterMap_cons_some hx, List.nodup_cons] at hn
        exact hn.1 (mem hj hy)
    | succ i =>
      cases j with
      | zero =>
        simp at hi hj; subst hj
        rw [List.filterMap_cons_some hy, List.nodup_cons] at hn
        exact hn.1 (mem hi hx)
      | succ j =>
        have hn' : (l.filterMap f).Nodup := by
          cases hd : f d with
          | none => rw [List.filterMap_cons_none hd] at hn; exact hn
          | some b => rw [List.filterMap_cons_some hd, List.nodup_cons] at hn; exact hn.2
        exact nodup_filterMap (i := i) (j := j) hn' (by omega) (by simpa using hi) (by simpa using hj) hx hy

/-- A function's body keeps its contract. -/
theorem ok_of_body {P : Program} {f : FuncId} {c : Con} {fn : Func} {code : Code} (n np : Nat) (hf : P.funcs[f]? = some fn) (hb : fn.body = some code) (hname : (fn.name == "runtime.NumGoroutine") = false) (hn : fn.ntmps = n)
    (hargs : ∀ a, c.pre a → (c.args a).length = np ∧ (c.args a).map AD.isIo = c.kinds) (hnp : np ≤ n) (clean : c.clean = true → ∀ a r, c.pre a → c.post a r → r.ret.all plainRD = true)
    (h : ∀ a, c.pre a → AW P n np code (RetQ P np c.kinds fn.results.toList (c.post a)) (initS (c.args a))) : CallOk P f c := by
  refine ⟨⟨fn, hf, by rw [hb]; rfl, hname⟩, clean, fun a hp w A io vs hA hnd hio hAlt => ?_⟩
  obtain ⟨hlen, hkinds⟩ := hargs a hp
  have hvl := hA.length
  refine calls_of_wp hf hb ?_
  generalize hargsD : c.args a = al at *
  let F : Fr := { w0 := w, A := A, io := io, n := n, np := np, pb := pbOf al io }
  have hFB : F.B = w.heap.size := rfl
  -- the ghosts at the start
  let g0 : Nat → Option GI := fun j => match pbOf al io j, al[j]? with
    | some b, some (.io cs) => some ⟨b, cs.length, 0, 0, true⟩
    | _, _ => none
  have hg0 : ∀ {j cs}, al[j]? = some (.io cs) → ∃ b c T, g0 j = some ⟨b, cs.length, 0, 0, true⟩ ∧ pbOf al io j = some b ∧ b ∈ io ∧ vs[j]? = some (.pointer (some ⟨b, 0, none⟩)) ∧ w.heap[b]? = some (.cells c T (0, 0)) ∧ c.size = cs.length ∧
      ∀ (i : Nat) d u, cs[i]? = some d → c[i]? = some u → Tc (fun _ => none) A w d u := by
    intro j cs hj
    obtain ⟨b, c, T, k1, k2, k3, k4, k5, k6⟩ := hA.io_at j cs hj
    exact ⟨b, c, T, by simp only [g0, k1, hj], k1, k2, k3, k4, k5, k6⟩
  have hmem : ∀ {id e}, (initS al).mem id = some e → ∃ cs, al[id]? = some (.io cs) ∧ e = .cells cs := by
    intro id e he
    simp only [initS] at he
    split at he
    · rename_i cs hh; cases he; exact ⟨cs, hh, rfl⟩
    · cases he
  have hAok : ∀ b, A b → Ok F g0 (initS al).mem w b := by
    intro b hb'
    refine ⟨hAlt b hb', fun _ => hb', fun id e gi hm hx hg hlv hbe => ?_⟩
    obtain ⟨cs, h1, rfl⟩ := hmem hm
    obtain ⟨b', c', T, k1, k2, k3, _⟩ := hg0 h1
    rw [hg] at k1; cases k1
    subst hbe
    exact (hio _ k3).2 hb'
  have hM0 : MemOk F g0 (initS al).mem w := by
    refine ⟨fun id e hm => ?_, fun id gi hg => ?_, fun i j ei ej gi gj hij hi hj _ _ hgi hgj _ _ => ?_, fun i e gi hm _ hg _ => ?_, fun i e gi hnp' hm _ hg _ => ?_, Nat.le_refl _, fun _ _ _ => rfl, rfl, rfl, rfl, Nat.le_refl _, fun b hb' => (hio b hb').2, fun j b hb' => ?_⟩
    · obtain ⟨cs, h1, rfl⟩ := hmem hm
      obtain ⟨b, c', T, k1, k2, k3, k4, k5, k6, k7⟩ := hg0 h1
      exact ⟨_, k1, rfl, c', T, k5, k6, fun i d u hd hu => (k7 i d u hd hu).mono ⟨fun _ _ h => by simp at h, fun b hb' => ⟨hAok b hb', rfl⟩⟩⟩
    · simp only [g0] at hg
      split at hg
      · rename_i b cs h1 h2; exact ⟨.cells cs, by simp [initS, h2]⟩
      · cases hg
    · obtain ⟨cs, h1, rfl⟩ := hmem hi
      obtain ⟨cs', h1', rfl⟩ := hmem hj
      obtain ⟨b, c', T, k1, k2, _⟩ := hg0 h1
      obtain ⟨b', c'', T', q1, q2, _⟩ := hg0 h1'
      rw [hgi] at k1; cases k1
      rw [hgj] at q1; cases q1
      intro hbe
      simp only at hbe
      subst hbe
      exact hij (hA.pbinj hnd i j _ k2 q2)
    · obtain ⟨cs, h1, rfl⟩ := hmem hm
      obtain ⟨b, c', T, k1, k2, k3, _⟩ := hg0 h1
      rw [hg] at k1; cases k1
      exact ⟨(hio _ k3).1, fun _ => k3⟩
    · obtain ⟨cs, h1, rfl⟩ := hmem hm
      have : i < al.length := by
        rcases Nat.lt_or_ge i al.length with h | h
        · exact h
        · simp [List.getElem?_eq_none h] at h1
      have : np ≤ i := hnp'
      omega
    · obtain ⟨k1, k2, cs, k3⟩ := hA.pb j b hb'
      obtain ⟨b', c', T, q1, q2, _⟩ := hg0 k3
      have hbb : pbOf al io j = some b := hb'
      rw [hbb] at q2; cases q2
      exact ⟨by show j < np; omega, _, q1, rfl⟩
  have hI : Inv F (initS al) { tmps := vs.toArray ++ Array.replicate (fn.ntmps - vs.toArray.size) undef, defers := [] } w := by
    refine ⟨rfl, ?_, g0, hM0, fun t => ?_⟩
    · simp only [Array.size_append, Array.size_replicate, List.size_toArray, hn]
      show _ = n
      omega
    · simp only [initS]
      split
      · rename_i x hx
        obtain ⟨v, hv1, hv2⟩ := hA.d_at t x hx
        have hlt : t < vs.length := by
          rcases Nat.lt_or_ge t vs.length with h | h
          · exact h
          · simp [List.getElem?_eq_none h] at hv1
        have : (vs.toArray ++ Array.replicate (fn.ntmps - vs.toArray.size) undef).getD t undef = v := by
          rw [Array.getD_eq_getD_getElem?, Array.getElem?_append_left (by simpa using hlt)]
          simp [hv1]
        rw [this]
        exact Tv.noId (hv2.world fun b hb' => ⟨hAok b hb', rfl⟩)
      · rename_i cs hx
        obtain ⟨b, c', T, k1, k2, k3, k4, k5, k6, k7⟩ := hg0 hx
        have hlt : t < vs.length := by
          rcases Nat.lt_or_ge t vs.length with h | h
          · exact h
          · simp [List.getElem?_eq_none h] at k4
        have : (vs.toArray ++ Array.replicate (fn.ntmps - vs.toArray.size) undef).getD t undef = .pointer (some ⟨b, 0, none⟩) := by
          rw [Array.getD_eq_getD_getElem?, Array.getElem?_append_left (by simpa using hlt)]
          simp [k4]
        rw [this]
        exact .c _ _ (.box t 0 _ k1)
      · exact .junk _
  have haw := h a hp
  rw [hargsD] at haw
  refine wp_mono (haw F _ w rfl rfl hI) ?_
  rintro e a' w' ⟨s, ⟨hdef, htm, g, hM, henv⟩, hq⟩
  -- the end
  have fin : RetS P np c.kinds fn.results.toList (c.post a) s → ∃ v, (results fn a'.tmps).run P w' = .ok v w' ∧ ∃ v' r, Ending.returned v = .returned v' ∧ c.post a r ∧ RetOk A w io r v' w' := by
    rintro ⟨ds, h1, M1, hM1, rds, ios, h2, h3, h4, h5⟩
    obtain ⟨vs', k1, k2, k3⟩ := resAll_ok hM henv _ _ h1
    obtain ⟨f1, f2⟩ := frzR_ok ds hM
    obtain ⟨f3, f4⟩ := frzA_ok (ioBoxes c.kinds 0) f1
    have f5 := f2.trans f4
    rw [show frzA F.np (frzR F.np s.mem ds) (ioBoxes c.kinds 0) = M1 from hM1.symm] at f3 f5
    have hrl : rds.length = ds.length := mapO_length h2
    refine ⟨_, run_results k1, _, ⟨rds, ios⟩, rfl, h5, ?_⟩
    -- ghosts of the results
    have hG : ∀ i, ∃ gi? : Option GI, i < ds.length → ∃ d rd u, ds[i]? = some d ∧ rds[i]? = some rd ∧ vs'[i]? = some u ∧ (∀ A : Nat → Prop, (∀ b, Ok F g M1 w' b → A b) → RetOne A w' rd gi? u) ∧
        ∀ gi, gi? = some gi → ∃ id e, ownId M1 d = some id ∧ M1 id = some e ∧ e.ex = true ∧ g id = some gi ∧ F.np ≤ id := by
      intro i
      by_cases hi : i < ds.length
      · have hd : ds[i]? = some ds[i] := List.getElem?_eq_getElem hi
        have hu : vs'[i]? = some (vs'[i]'(by omega)) := List.getElem?_eq_getElem (by omega)
        obtain ⟨rd, hrd1, hrd2⟩ := mapO_get' h2 hd
        obtain ⟨gi?, q1, q2⟩ := rd_ok f3 ((k3 i _ _ hd hu).mono f5) hrd2
        exact ⟨gi?, fun _ => ⟨_, rd, _, hd, hrd1, hu, q1, q2⟩⟩
      · exact ⟨none, fun h => absurd h hi⟩
    obtain ⟨G, hG⟩ := Classical.axiomOfChoice hG
    have hgis : ∀ (i : Nat) gi?, ((List.range ds.length).map G)[i]? = some gi? → i < ds.length ∧ G i = gi? := by
      intro i gi? hh
      by_cases hi : i < ds.length
      · simp [hi] at hh; exact ⟨hi, hh⟩
      · simp [hi] at hh
    have hgisM : ∀ gi, some gi ∈ (List.range ds.length).map G → ∃ i, i < ds.length ∧ G i = some gi := by
      intro gi hh
      obtain ⟨i, hi, he⟩ := List.mem_map.1 hh
      exact ⟨i, by simpa using hi, he⟩
    have hRA : ∀ b, Ok F g M1 w' b → RetA A w w' ((List.range ds.length).map G) b := by
      rintro b ⟨b1, b2, b3⟩
      refine ⟨b1, b2, fun gi hgi hlv => ?_⟩
      obtain ⟨i, hi, he⟩ := hgisM gi hgi
      obtain ⟨d, rd, u, q1, q2, q3, q4, q5⟩ := hG i hi
      obtain ⟨id, e, r1, r2, r3, r4, r5⟩ := q5 gi he
      exact b3 id e gi r2 r3 r4 hlv
    have hiosP := hkinds ▸ h3
    obtain ⟨io1, io2⟩ := hA.ioOut (M := M1) 0 ios (by rw [hkinds]; exact h3)
    refine ⟨f3.size, fun b hb' hnb => f3.old b hb' hnb, f3.os, f3.tape, f3.output, f3.dr, (List.range ds.length).map G, vs', rfl, by simp [k2, hrl], by simp [hrl], fun i rd gi u hrd hgi hu => ?_, fun gi hgi hlv => ?_, fun i j gi gj hij hgi hgj hli hlj => ?_, io1, fun k b cs hb' hc => ?_⟩
    · obtain ⟨hi, he⟩ := hgis i gi hgi
      obtain ⟨d, rd', u', q1, q2, q3, q4, q5⟩ := hG i hi
      simp only at hrd
      rw [hrd] at q2; cases q2
      rw [hu] at q3; cases q3
      rw [he] at q4
      exact q4 _ hRA
    · obtain ⟨i, hi, he⟩ := hgisM gi hgi
      obtain ⟨d, rd, u, q1, q2, q3, q4, q5⟩ := hG i hi
      obtain ⟨id, e, r1, r2, r3, r4, r5⟩ := q5 gi he
      exact ⟨f3.hi id e gi r5 r2 r3 r4 hlv, (f3.lo id e gi r2 r3 r4 hlv).1⟩
    · obtain ⟨hi, he⟩ := hgis i _ hgi
      obtain ⟨hj, he'⟩ := hgis j _ hgj
      obtain ⟨d, rd, u, q1, q2, q3, q4, q5⟩ := hG i hi
      obtain ⟨id, e, r1, r2, r3, r4, r5⟩ := q5 gi he
      obtain ⟨d', rd', u', p1, p2, p3, p4, p5⟩ := hG j hj
      obtain ⟨id', e', s1, s2, s3, s4, s5⟩ := p5 gj he'
      refine f3.inj id id' e e' gi gj (fun hh => ?_) r2 s2 r3 s3 r4 s4 hli hlj
      subst hh
      exact nodup_filterMap h4 hij q1 p1 r1 s1
    · obtain ⟨i, cs0, q1, q2, q3⟩ := io2 k b cs hb' hc
      rw [Nat.zero_add] at q2
      obtain ⟨hi, gi, r1, r2⟩ := f3.par i b q1
      obtain ⟨gi', hg', hlv, c', T, s1, s2, s3⟩ := f3.ent i _ q2
      rw [r1] at hg'; cases hg'
      subst r2
      refine ⟨c', T, s1, by rw [s2, mapO_length q3], fun j d u hd hu => ?_⟩
      obtain ⟨x, hx1, hx2⟩ := mapO_get q3 hd
      have ht := s3 j x u hx1 hu
      exact .c _ _ (fz_ok f3 hRA (fun h => by simp at h) 1 ht.isCell ht hx2)
  cases e with
  | normal => exact ⟨hdef, fin hq⟩
  | ret => exact ⟨hdef, fin hq⟩
  | exit id => exact hq.elim
  | goto l => exact hq.elim
  | panic ch => exact hq.elim
  | outgrown => exact hq.elim

end Go.Abs

/- The abstract machine, fifteenth part: words for proofs over it. -/
set_option linter.unusedVariables false
set_option linter.unusedSimpArgs false
namespace Go.Abs
open Go

theorem upd_app {α : Type} (f : Nat → α) (i : Nat) (x : α) (j : Nat) : upd f i x j = if j = i then x else f j := rfl
theorem envOf_cons (k : Nat) (d : D) (l : List (Nat × D)) (i : Nat) : envOf ((k, d) :: l) i = if i = k then d else envOf l i := rfl
theorem envOf_nil (i : Nat) : envOf [] i = .junk := rfl
theorem memOf_cons (k : Nat) (e : Ent) (l : List (Nat × Ent)) (i : Nat) : memOf ((k, e) :: l) i = if i = k then some e else memOf l i := rfl
theorem memOf_nil (i : Nat) : memOf [] i = none := rfl

def initE : Nat → List AD → List (Nat × D)
  | _, [] => []
  | j, .d x :: l => (j, x) :: initE (j + 1) l
  | j, .io _ :: l => (j, .box j 0) :: initE (j + 1) l
def initMm : Nat → List AD → List (Nat × Ent)
  | _, [] => []
  | j, .d _ :: l => initMm (j + 1) l
  | j, .io cs :: l => (j, .cells cs) :: initMm (j + 1) l

theorem initE_get : ∀ (l : List AD) (j i : Nat), envOf (initE j l) i = if j ≤ i then (match l[i - j]? with | some (.d x) => x | some (.io _) => .box i 0 | none => .junk) else .junk
  | [], j, i => by simp [initE, envOf]
  | a :: l, j, i => by
    have ih := initE_get l (j + 1) i
    by_cases h1 : i = j
    · subst h1; cases a <;> simp [initE, envOf]
    · by_cases h2 : j ≤ i
      · have e : i - j = (i - (j + 1)) + 1 := by omega
        rw [if_pos (by omega)] at ih
        rw [if_pos h2, e, List.getElem?_cons_succ, ← ih]
        cases a <;> simp [initE, envOf, h1]
      · rw [if_neg (by omega)] at ih
        rw [if_neg h2]
        cases a <;> simp [initE, envOf, h1, ih]
theorem initMm_get : ∀ (l : List AD) (j i : Nat), memOf (initMm j l) i = if j ≤ i then (match l[i - j]? with | some (.io cs) => some (.cells cs) | _ => none) else none
  | [], j, i => by simp [initMm, memOf]
  | a :: l, j, i => by
    have ih := initMm_get l (j + 1) i
    by_cases h1 : i = j
    · subst h1
      rw [if_neg (by omega)] at ih
      cases a <;> simp [initMm, memOf, ih]
    · by_cases h2 : j ≤ i
      · have e : i - j = (i - (j + 1)) + 1 := by omega
        rw [if_pos (by omega)] at ih
        rw [if_pos h2, e, List.getElem?_cons_succ, ← ih]
        cases a <;> simp [initMm, memOf, h1]
      · rw [if_neg (by omega)] at ih
        rw [if_neg h2]
        cases a <;> simp [initMm, memOf, h1, ih]

theorem initS_eq (al : List AD) : initS al = ⟨envOf (initE 0 al), memOf (initMm 0 al), al.length⟩ := by
  unfold initS
  congr 1
  · funext i; rw [initE_get, if_pos (Nat.zero_le _), Nat.sub_zero]; try (cases al[i]? with | none => rfl | some a => cases a <;> rfl)
  · funext i; rw [initMm_get, if_pos (Nat.zero_le _), Nat.sub_zero]; try (cases al[i]? with | none => rfl | some a => cases a <;> rfl)

/-- Contracts that callers take as they are, by the callee's number. -/
def kOf : List (FuncId × Con) → Kt
  | [], _ => none
  | (f, c) :: l, g => if g = f then some c else kOf l g
theorem kOf_cons (f : FuncId) (c : Con) (l : List (FuncId × Con)) (g : FuncId) : kOf ((f, c) :: l) g = if g = f then some c else kOf l g := rfl
theorem kOk_nil {P : Program} : KOk P (kOf []) := fun f c h => by simp [kOf] at h
theorem kOk_cons {P : Program} {f : FuncId} {c : Con} {l : List (FuncId × Con)} (h : CallOk P f c) (r : KOk P (kOf l)) (hs : c.srt = none := by rfl) : KOk P (kOf ((f, c) :: l)) := by
  intro g d hd
  simp only [kOf] at hd
  split at hd
  · rename_i he; cases hd; subst he; rw [hs]; exact h
  · exact r g d hd
/-- A sort's contract. -/
def srtC (k : Nat) (ag : Bool) : Con := { α := Unit, kinds := [], args := fun _ => [], pre := fun _ => False, post := fun _ _ => False, clean := true, srt := some (.srt k ag) }
theorem kOk_sort {P : Program} {f : FuncId} {k : Nat} {ag : Bool} {l : List (FuncId × Con)} (h : SortOk P f k ag) (r : KOk P (kOf l)) : KOk P (kOf ((f, srtC k ag) :: l)) := by
  intro g d hd
  simp only [kOf] at hd
  split at hd
  · rename_i he; cases hd; subst he; exact h
  · exact r g d hd

/-- .. of Insert and Delete. -/
def insC (k by' : Nat) : Con := { α := Unit, kinds := [], args := fun _ => [], pre := fun _ => False, post := fun _ _ => False, clean := true, srt := some (.ins k by') }
theorem kOk_ins {P : Program} {f : FuncId} {k by' : Nat} {l : List (FuncId × Con)} (h : InsOk P f k by') (r : KOk P (kOf l)) : KOk P (kOf ((f, insC k by') :: l)) := by
  intro g d hd
  simp only [kOf] at hd
  split at hd
  · rename_i he; cases hd; subst he; exact h
  · exact r g d hd
def delC (k : Nat) : Con := { α := Unit, kinds := [], args := fun _ => [], pre := fun _ => False, post := fun _ _ => False, clean := true, srt := some (.del k) }
theorem kOk_del {P : Program} {f : FuncId} {k : Nat} {l : List (FuncId × Con)} (h : DelOk P f k) (r : KOk P (kOf l)) : KOk P (kOf ((f, delC k) :: l)) := by
  intro g d hd
  simp only [kOf] at hd
  split at hd
  · rename_i he; cases hd; subst he; exact h
  · exact r g d hd

abbrev i64 (n : Int) : D := .v (.int .i64 n)
abbrev bl (b : Bool) : D := .v (.bool b)

theorem ok_of_body' {P : Program} {f : FuncId} {c : Con} {fn : Func} {code : Code} (n np : Nat) (hf : P.funcs[f]? = some fn) (hb : fn.body = some code) (hname : (fn.name == "runtime.NumGoroutine") = false) (hn : fn.ntmps = n)
    (hargs : ∀ a, c.pre a → (c.args a).length = np ∧ (c.args a).map AD.isIo = c.kinds) (hnp : np ≤ n) (clean : c.clean = true → ∀ a r, c.pre a → c.post a r → r.ret.all plainRD = true)
    (h : ∀ a, c.pre a → AW P n np code (RetQ P np c.kinds fn.results.toList (c.post a)) ⟨envOf (initE 0 (c.args a)), memOf (initMm 0 (c.args a)), (c.args a).length⟩) : CallOk P f c :=
  ok_of_body n np hf hb hname hn hargs hnp clean fun a hp => by rw [initS_eq]; exact h a hp

end Go.Abs

/- The abstract machine, sixteenth part: what an operation touches; operations that touch nothing in common may change places. -/
set_option linter.unusedVariables false
set_option linter.unusedSimpArgs false
namespace Go.Abs
open Go

def agr (T : List Nat) (M N : Mem) : Prop := ∀ id, id ∈ T → N id = M id
def ovr (W : List Nat) (M' N : Mem) : Mem := fun id => if id ∈ W then M' id else N id

theorem ovr_nil (M' N : Mem) : ovr [] M' N = N := by funext id; simp [ovr]
theorem ovr_upd1 (M N : Mem) (f : Nat) (e : Option Ent) : ovr [f] (upd M f e) N = upd N f e := by
  funext id; simp only [ovr, upd, List.mem_singleton]; split <;> rfl

/-- A contract has a result, of at most four values. -/
def KDet (K : Kt) : Prop := ∀ f c, K f = some c → ∀ a, c.pre a → (∃ r, c.post a r) ∧ ∀ r, c.post a r → r.ret.length ≤ 4
theorem kDet_nil : KDet (kOf []) := fun f c h => by simp [kOf] at h
theorem kDet_wild {f : FuncId} {c : Con} {l : List (FuncId × Con)} (h : ∀ a, c.pre a → (∃ r, c.post a r) ∧ ∀ r, c.post a r → r.ret.length ≤ 4) (r : KDet (kOf l)) : KDet (kOf ((f, c) :: l)) := by
  intro g d hd
  simp only [kOf] at hd
  split at hd
  · cases hd; exact h
  · exact r g d hd
theorem kDet_cons {f : FuncId} {c : Con} {l : List (FuncId × Con)} (h : ∀ a, c.pre a → ∃ r, c.post a r ∧ r.ret.length ≤ 4 ∧ ∀ r', c.post a r' → r' = r) (r : KDet (kOf l)) : KDet (kOf ((f, c) :: l)) :=
  kDet_wild (fun a ha => by
    obtain ⟨r, h1, h2, h3⟩ := h a ha
    exact ⟨⟨r, h1⟩, fun r' hr' => by rw [h3 r' hr']; exact h2⟩) r

def ids0 : D → List Nat
  | .row id | .vw id _ _ | .elt id _ _ | .box id _ | .mp id | .it id => [id]
  | _ => []

def ids (M : Mem) : Nat → D → List Nat
  | 0, d => ids0 d
  | n + 1, .box id off => id :: (match M id with
    | some (.cells cs) => cs.flatMap (ids M n)
    | _ => [])
  | n + 1, .fn f x y => x.flatMap (ids M n) ++ y.flatMap (ids M n)
  | n + 1, .agg cs => cs.flatMap (ids M n)
  | n + 1, d => ids0 d

theorem mapO_congr {α β : Type} {f f' : α → Option β} : ∀ {l : List α}, (∀ x, x ∈ l → f' x = f x) → mapO f' l = mapO f l
  | [], _ => rfl
  | x :: l, h => by simp only [mapO]; rw [h x List.mem_cons_self, mapO_congr fun y hy => h y (List.mem_cons_of_mem _ hy)]

theorem fz0_congr {M N : Mem} {b : Bool} {d : D} (h : agr (ids0 d) M N) : fz0 N b d = fz0 M b d := by
  unfold fz0
  split <;> first | rfl | (rename_i id; rw [h id (by simp [ids0])]) | (rename_i id _ _; rw [h id (by simp [ids0])])

theorem fz_congr {M N : Mem} {b : Bool} : ∀ (n m : Nat) (d : D), n ≤ m → agr (ids M m d) M N → fz N b n d = fz M b n d
  | 0, m, d, hm, h => by
    cases m with
    | zero => exact fz0_congr h
    | succ m =>
      unfold fz
      cases d <;> first | rfl | exact fz0_congr h | (simp only [fz0])
  | n + 1, 0, d, hm, h => by omega
  | n + 1, m + 1, d, hm, h => by
    cases d with
    | box id off =>
      simp only [fz]
      simp only [ids] at h
      rw [h id List.mem_cons_self]
      split
      · rename_i cs hc
        have : mapO (fz N b n) cs = mapO (fz M b n) cs := mapO_congr fun x hx => fz_congr n m x (by omega) fun i hi => h i (List.mem_cons_of_mem _ (by rw [hc]; exact List.mem_flatMap.2 ⟨x, hx, hi⟩))
        rw [this]
      · rfl
    | fn f x y =>
      simp only [fz]
      simp only [ids] at h
      have h1 : mapO (fz N b n) x = mapO (fz M b n) x := mapO_congr fun z hz => fz_congr n m z (by omega) fun i hi => h i (List.mem_append_left _ (List.mem_flatMap.2 ⟨z, hz, hi⟩))
      have h2 : mapO (fz N b n) y = mapO (fz M b n) y := mapO_congr fun z hz => fz_congr n m z (by omega) fun i hi => h i (List.mem_append_right _ (List.mem_flatMap.2 ⟨z, hz, hi⟩))
      rw [h1, h2]
    | agg cs =>
      simp only [fz]
      simp only [ids] at h
      have h1 : mapO (fz N b n) cs = mapO (fz M b n) cs := mapO_congr fun z hz => fz_congr n m z (by omega) fun i hi => h i (List.mem_flatMap.2 ⟨z, hz, hi⟩)
      rw [h1]
    | row id => exact fz0_congr (d := .row id) h
    | vw id x y => exact fz0_congr (d := .vw id x y) h
    | elt id x y => exact fz0_congr (d := .elt id x y) h
    | _ => rfl

theorem rowsOf_congr {M N : Mem} {d : D} (h : agr (ids0 d) M N) : rowsOf N d = rowsOf M d := by
  unfold rowsOf
  split <;> first | rfl | (rename_i id; rw [h id (by simp [ids0])]) | (rename_i id _ _; rw [h id (by simp [ids0])])

/-- Nothing to freeze in it. -/
def nf1 (np : Nat) (M : Mem) (id : Nat) : Bool := match M id with
  | some (.row _ _ true) => decide (id < np)
  | _ => true
def nf0 (np : Nat) (M : Mem) : D → Bool
  | .row id => nf1 np M id
  | .vw id _ _ => nf1 np M id
  | .elt id _ _ => nf1 np M id
  | _ => true
def nf (np : Nat) (M : Mem) : D → Bool
  | .agg cs => cs.all (nf0 np M)
  | .box id _ => match M id with
    | some (.cells cs) => cs.all (nf0 np M)
    | _ => true
  | d => nf0 np M d

theorem nf1_eq {np : Nat} {M : Mem} {id : Nat} (h : nf1 np M id = true) : frz1 np M id = M := by
  unfold nf1 at h; unfold frz1
  split at h
  · rename_i hm
    simp only [hm]
    rw [if_neg (by simp at h; omega)]
  · rename_i hm
    split
    · rename_i hq; exact absurd hq (hm _ _)
    · rfl
theorem nf0_eq {np : Nat} {M : Mem} {d : D} (h : nf0 np M d = true) : frz0 np M d = M := by
  cases d <;> first | exact nf1_eq h | rfl
theorem nfL_eq {np : Nat} {M : Mem} : ∀ {l : List D}, l.all (nf0 np M) = true → frzL np M l = M
  | [], _ => rfl
  | d :: l, h => by
    simp only [List.all_cons, Bool.and_eq_true] at h
    simp only [frzL, nf0_eq h.1]
    exact nfL_eq h.2
theorem nf_eq {np : Nat} {M : Mem} {d : D} (h : nf np M d = true) : frz np M d = M := by
  cases d with
  | agg cs => exact nfL_eq h
  | box id off =>
    simp only [nf] at h
    simp only [frz]
    split <;> first | rfl | (rename_i cs hc; simp only [hc] at h; exact nfL_eq h)
  | row id => exact nf0_eq (d := .row id) h
  | vw id a b => exact nf0_eq (d := .vw id a b) h
  | elt id a b => exact nf0_eq (d := .elt id a b) h
  | _ => rfl
theorem nfA_eq {np : Nat} {M : Mem} : ∀ {l : List D}, l.all (nf np M) = true → frzA np M l = M
  | [], _ => rfl
  | d :: l, h => by
    simp only [List.all_cons, Bool.and_eq_true] at h
    simp only [frzA, nf_eq h.1]
    exact nfA_eq h.2
theorem nf0_congr {np : Nat} {M N : Mem} {d : D} (h : agr (ids0 d) M N) : nf0 np N d = nf0 np M d := by
  cases d <;> first | rfl | (simp only [nf0, nf1]; rw [h _ (by simp [ids0])])
theorem all_congr {α : Type} {f g : α → Bool} : ∀ {l : List α}, (∀ x, x ∈ l → f x = g x) → l.all f = l.all g
  | [], _ => rfl
  | x :: l, h => by simp only [List.all_cons]; rw [h x List.mem_cons_self, all_congr fun y hy => h y (List.mem_cons_of_mem _ hy)]
theorem ids_ids0 {M : Mem} (n : Nat) (d : D) : ∀ i, i ∈ ids0 d → i ∈ ids M n d := by
  intro i hi
  cases n with
  | zero => exact hi
  | succ n => cases d <;> first | exact hi | (simp [ids0] at hi; subst hi; simp [ids]; done) | simp [ids0] at hi
theorem nf_congr {np : Nat} {M N : Mem} {d : D} (n : Nat) (h : agr (ids M (n + 1) d) M N) : nf np N d = nf np M d := by
  cases d with
  | agg cs =>
    simp only [nf]
    exact all_congr fun x hx => nf0_congr fun i hi => h i (List.mem_flatMap.2 ⟨x, hx, ids_ids0 n x i hi⟩)
  | box id off =>
    simp only [nf]
    rw [h id (by simp [ids])]
    split
    · rename_i cs hc
      exact all_congr fun x hx => nf0_congr fun i hi => h i (by simp only [ids, hc]; exact List.mem_cons_of_mem _ (List.mem_flatMap.2 ⟨x, hx, ids_ids0 n x i hi⟩))
    · rfl
  | row id => exact nf0_congr (d := .row id) h
  | vw id a b => exact nf0_congr (d := .vw id a b) h
  | elt id a b => exact nf0_congr (d := .elt id a b) h
  | _ => rfl

def fid4 (fid : Nat) : List Nat := [fid, fid + 1, fid + 2, fid + 3]

/-- What an operation touches; what it writes. -/
def slD : D → Bool
  | .sl _ _ => true
  | _ => false
def foot (K : Kt) (np : Nat) (op : Op) (ρ : Operand → D) (M : Mem) (fid : Nat) : Option (List Nat × List Nat) :=
  match op with
  | .move _ | .assign _ | .pick .. | .build .. | .nilCheck _ | .unOp .. | .convert .. | .makeFunc .. | .fieldAddr .. | .field .. | .index .. | .extract .. => some ([], [])
  | .binOp _ _ x _ _ => if slD (ρ x) then none else some ([], [])
  | .alloc _ | .box .. | .makeSlice .. => some ([], [fid])
  | .load t a => some (ids0 (ρ a), [])
  | .indexAddr t x i => some (ids0 (ρ x), [])
  | .slice t x lo hi none => some (ids0 (ρ x), [])
  | .buildSlice t len parts => if ((partsD ρ parts).map (·.2)).all (nf np M) then some (((partsD ρ parts).map (·.2)).flatMap (ids M 5), [fid]) else none
  | .lookup t m k ok => match ρ m with
    | .mp id => some ([id], [])
    | _ => some ([], [])
  | .mapUpdate t m k x => match ρ m with
    | .mp id => match M id with
      | some (.rmap _) => some ([], [id])
      | _ => none
    | _ => none
  | .store t a x => if nf np M (ρ x) then some (ids M 5 (ρ x), ids0 (ρ a)) else none
  | .call c => match c.callee with
    | .builtin b => match b, c.args.toList.map ρ with
      | .len, [x] => some (ids0 x, [])
      | .append, [s, x] => some (ids0 x, ids0 s ++ [fid])
      | .min, _ => some ([], [])
      | .max, _ => some ([], [])
      | _, _ => none
    | .value f => match ρ f with
      | .fn f first caps => match K f with
        | some k => match k.srt with
          | some _ => none
          | none => if k.clean then some ((first ++ c.args.toList.map ρ ++ caps).flatMap (ids M 5), fid4 fid)
          else if (first ++ c.args.toList.map ρ ++ caps).all (nf np M) then some ((first ++ c.args.toList.map ρ ++ caps).flatMap (ids M 5), ioIds k.kinds (first ++ c.args.toList.map ρ ++ caps) ++ fid4 fid) else none
        | none => none
      | _ => some ([], [])
    | _ => none
  | _ => none

def LocAt (T W : List Nat) (f : Mem → (D → Mem → Prop) → Prop) (M : Mem) (nx : D → Mem → Prop) : Prop :=
  ∃ d M', nx d M' ∧ (∀ id, id ∉ W → M' id = M id) ∧ ∀ N, agr (T ++ W) M N → ∀ nx' : D → Mem → Prop, nx' d (ovr W M' N) → f N nx'

theorem LocAt.read {T : List Nat} {f : Mem → (D → Mem → Prop) → Prop} {M : Mem} {nx : D → Mem → Prop} (d : D) (h : nx d M) (k : ∀ N, agr T M N → ∀ nx' : D → Mem → Prop, nx' d N → f N nx') : LocAt T [] f M nx :=
  ⟨d, M, h, fun _ _ => rfl, fun N hN nx' hn => k N (by simpa using hN) nx' (by rw [ovr_nil] at hn; exact hn)⟩
theorem LocAt.write {T : List Nat} {f : Mem → (D → Mem → Prop) → Prop} {M : Mem} {nx : D → Mem → Prop} (d : D) (i : Nat) (e : Option Ent) (h : nx d (upd M i e)) (k : ∀ N, agr (T ++ [i]) M N → ∀ nx' : D → Mem → Prop, nx' d (upd N i e) → f N nx') : LocAt T [i] f M nx :=
  ⟨d, _, h, fun id hid => upd_ne _ _ (by simpa using hid), fun N hN nx' hn => k N hN nx' (by rw [ovr_upd1] at hn; exact hn)⟩

/-- A call of a function of the program. -/
def vcall : Op → Bool
  | .call c => match c.callee with
    | .value _ => true
    | _ => false
  | _ => false
/-- Some outcomes, whichever. -/
def LocN (T W : List Nat) (f : Mem → (D → Mem → Prop) → Prop) (M : Mem) (nx : D → Mem → Prop) : Prop :=
  ∃ O : D → Mem → Prop, (∃ d M', O d M') ∧ (∀ d M', O d M' → nx d M' ∧ ∀ id, id ∉ W → M' id = M id) ∧ ∀ N, agr (T ++ W) M N → ∀ nx' : D → Mem → Prop, (∀ d M', O d M' → nx' d (ovr W M' N)) → f N nx'

end Go.Abs
