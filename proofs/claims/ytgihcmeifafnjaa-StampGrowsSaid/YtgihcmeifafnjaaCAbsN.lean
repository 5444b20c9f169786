/- The abstract machine, fourteenth part: a function's body keeps its contract. -/
import Derived.Test.YtgihcmeifafnjaaCAbsM
set_option linter.unusedVariables false
set_option linter.unusedSimpArgs false
namespace Go.Abs
open Go

def AD.isIo : AD → Bool
  | .io _ => true
  | .d _ => false

/-- The block of a parameter that is a variable. -/
def pbOf : List AD → List Nat → Nat → Option Nat
  | .d _ :: al, io, j + 1 => pbOf al io j
  | .io _ :: _, b :: _, 0 => some b
  | .io _ :: al, _ :: io, j + 1 => pbOf al io j
  | _, _, _ => none

theorem ArgsOk.length {A w al vs io} (h : ArgsOk A w al vs io) : vs.length = al.length := by
  induction h with
  | nil => rfl
  | d => simp_all
  | io => simp_all
theorem ArgsOk.d_at {A w al vs io} (h : ArgsOk A w al vs io) : ∀ (i : Nat) x, al[i]? = some (.d x) → ∃ v, vs[i]? = some v ∧ Rv A w x v := by
  induction h with
  | nil => intro i x h; simp at h
  | d x v al vs io h r ih =>
    intro i y hi
    cases i with
    | zero => simp at hi; subst hi; exact ⟨v, rfl, h⟩
    | succ i => exact ih i y (by simpa using hi)
  | io cs b c T al vs io hb hl hr r ih =>
    intro i y hi
    cases i with
    | zero => simp at hi
    | succ i => exact ih i y (by simpa using hi)
theorem ArgsOk.io_at {A w al vs io} (h : ArgsOk A w al vs io) : ∀ (i : Nat) cs, al[i]? = some (.io cs) → ∃ b c T, pbOf al io i = some b ∧ b ∈ io ∧ vs[i]? = some (.pointer (some ⟨b, 0, none⟩)) ∧
    w.heap[b]? = some (.cells c T (0, 0)) ∧ c.size = cs.length ∧ ∀ (i : Nat) d u, cs[i]? = some d → c[i]? = some u → Tc (fun _ => none) A w d u := by
  induction h with
  | nil => intro i x h; simp at h
  | d x v al vs io h r ih =>
    intro i cs hi
    cases i with
    | zero => simp at hi
    | succ i => exact ih i cs (by simpa using hi)
  | io cs b c T al vs io hb hl hr r ih =>
    intro i cs' hi
    cases i with
    | zero => simp at hi; subst hi; exact ⟨b, c, T, rfl, by simp, rfl, hb, hl, hr⟩
    | succ i =>
      obtain ⟨b', c', T', k1, k2, k3⟩ := ih i cs' (by simpa using hi)
      exact ⟨b', c', T', k1, List.mem_cons_of_mem _ k2, k3⟩
theorem ArgsOk.pb {A w al vs io} (h : ArgsOk A w al vs io) : ∀ (i : Nat) b, pbOf al io i = some b → b ∈ io ∧ i < al.length ∧ ∃ cs, al[i]? = some (.io cs) := by
  induction h with
  | nil => intro i b h; simp [pbOf] at h
  | d x v al vs io h r ih =>
    intro i b hi
    cases i with
    | zero => simp [pbOf] at hi
    | succ i => obtain ⟨k1, k2, k3⟩ := ih i b (by simpa [pbOf] using hi); exact ⟨k1, by simpa using k2, by simpa using k3⟩
  | io cs b' c T al vs io hb hl hr r ih =>
    intro i b hi
    cases i with
    | zero => simp [pbOf] at hi; subst hi; exact ⟨by simp, by simp, cs, rfl⟩
    | succ i => obtain ⟨k1, k2, k3⟩ := ih i b (by simpa [pbOf] using hi); exact ⟨List.mem_cons_of_mem _ k1, by simpa using k2, by simpa using k3⟩
theorem ArgsOk.pbinj {A w al vs io} (h : ArgsOk A w al vs io) (hn : io.Nodup) : ∀ (i j : Nat) b, pbOf al io i = some b → pbOf al io j = some b → i = j := by
  induction h with
  | nil => intro i j b h; simp [pbOf] at h
  | d x v al vs io h r ih =>
    intro i j b hi hj
    cases i with
    | zero => simp [pbOf] at hi
    | succ i => cases j with
      | zero => simp [pbOf] at hj
      | succ j => rw [ih hn i j b (by simpa [pbOf] using hi) (by simpa [pbOf] using hj)]
  | io cs b' c T al vs io hb hl hr r ih =>
    intro i j b hi hj
    rw [List.nodup_cons] at hn
    cases i with
    | zero => cases j with
      | zero => rfl
      | succ j =>
        simp [pbOf] at hi; subst hi
        exact absurd (r.pb j _ (by simpa [pbOf] using hj)).1 hn.1
    | succ i => cases j with
      | zero =>
        simp [pbOf] at hj; subst hj
        exact absurd (r.pb i _ (by simpa [pbOf] using hi)).1 hn.1
      | succ j => rw [ih hn.2 i j b (by simpa [pbOf] using hi) (by simpa [pbOf] using hj)]

theorem ArgsOk.ioOut {A w al vs io} (h : ArgsOk A w al vs io) {M : Mem} : ∀ (j : Nat) (ios : List (List D)), ioOut M (al.map AD.isIo) j = some ios →
    ios.length = io.length ∧ ∀ (k : Nat) b cs, io[k]? = some b → ios[k]? = some cs → ∃ i cs0, pbOf al io i = some b ∧ M (j + i) = some (.cells cs0) ∧ mapO (fz M false 1) cs0 = some cs := by
  induction h with
  | nil => intro j ios h; simp [Abs.ioOut] at h; subst h; exact ⟨rfl, by simp⟩
  | d x v al vs io h r ih =>
    intro j ios hh
    obtain ⟨k1, k2⟩ := ih (j + 1) ios (by simpa [Abs.ioOut, AD.isIo] using hh)
    refine ⟨k1, fun k b cs hb hc => ?_⟩
    obtain ⟨i, cs0, q1, q2, q3⟩ := k2 k b cs hb hc
    exact ⟨i + 1, cs0, by simpa [pbOf] using q1, by rw [show j + (i + 1) = j + 1 + i from by omega]; exact q2, q3⟩
  | io cs b' c T al vs io hb hl hr r ih =>
    intro j ios hh
    simp only [List.map_cons, AD.isIo, Abs.ioOut] at hh
    split at hh
    · rename_i cs0 r' hm hr'
      obtain ⟨cs1, h1, rfl⟩ := Option.map_eq_some_iff.1 hh
      obtain ⟨k1, k2⟩ := ih (j + 1) r' hr'
      refine ⟨by simp [k1], fun k b cs hb hc => ?_⟩
      cases k with
      | zero =>
        simp at hb hc; subst hb; subst hc
        exact ⟨0, cs0, rfl, hm, h1⟩
      | succ k =>
        obtain ⟨i, cs0, q1, q2, q3⟩ := k2 k b cs (by simpa using hb) (by simpa using hc)
        exact ⟨i + 1, cs0, by simpa [pbOf] using q1, by rw [show j + (i + 1) = j + 1 + i from by omega]; exact q2, q3⟩
    · simp at hh

theorem frzR1_ok {F : Fr} {g M w} (hM : MemOk F g M w) (d : D) : MemOk F g (frzR1 F.np M d) w ∧ Le g (Ok F g M w) w g (Ok F g (frzR1 F.np M d) w) w := by
  cases d with
  | agg cs => exact frzL_ok cs hM
  | box id o => exact frz_ok hM (.box id o)
  | vw id a b => exact frz0_ok hM (.vw id a b)
  | elt id a b => exact frz0_ok hM (.elt id a b)
  | _ => exact ⟨hM, Le.refl _ _ _⟩
theorem frzR_ok {F : Fr} {g w} : ∀ (l : List D) {M}, MemOk F g M w → MemOk F g (frzR F.np M l) w ∧ Le g (Ok F g M w) w g (Ok F g (frzR F.np M l) w) w
  | [], M, hM => ⟨hM, Le.refl _ _ _⟩
  | d :: l, M, hM => by
    obtain ⟨h1, h2⟩ := frzR1_ok hM d
    obtain ⟨h3, h4⟩ := frzR_ok l h1
    exact ⟨h3, h2.trans h4⟩

/-- Some cells of memory, read. -/
theorem readCells {P : Program} {g : Nat → Option GI} {A : Nat → Prop} {w : World} {t : TypeId} {ag : Bool} {n : Nat} (hag : agT P t = some ag) (hn : szT P t = some n) {b off : Nat} {cs : List D} {d : D}
    (hc : ∀ (j : Nat) d, cs[j]? = some d → ∃ u, w.cell? ⟨b, j, none⟩ = some u ∧ Tc g A w d u)
    (h : (if ag then (if off + n ≤ cs.length then some (.agg ((cs.drop off).take n)) else none) else cs[off]?) = some d) :
    ∃ v, (loadVar t ⟨b, off, none⟩).run P w = .ok v w ∧ Tv g A w d v := by
  cases ag with
  | true =>
    simp only [if_true] at h
    split at h
    · rename_i hle
      cases h
      have hX : ∀ j, ∃ u, j < n → w.cell? ⟨b, off + j, none⟩ = some u ∧ ∀ d, cs[off + j]? = some d → Tc g A w d u := by
        intro j
        by_cases hj : j < n
        · obtain ⟨u, hu, ht⟩ := hc (off + j) _ (List.getElem?_eq_getElem (by omega))
          exact ⟨u, fun _ => ⟨hu, fun d hd => by rw [List.getElem?_eq_getElem (by omega)] at hd; cases hd; exact ht⟩⟩
        · exact ⟨undef, fun h => absurd h hj⟩
      obtain ⟨X, hX⟩ := Classical.axiomOfChoice hX
      refine ⟨_, run_loadVar' hag hn X (fun j hj => (hX j (by simpa using hj)).1), ?_⟩
      simp only [if_true]
      refine .agg _ _ (by simp; omega) fun i d u hd hu => ?_
      by_cases hi : i < n
      · simp [hi] at hu
        rw [List.getElem?_take, if_pos hi, List.getElem?_drop] at hd
        rw [← hu]; exact (hX i hi).2 d hd
      · simp [hi] at hu
    · cases h
  | false =>
    simp only [Bool.false_eq_true, if_false] at h
    obtain ⟨u, hu, ht⟩ := hc off d h
    refine ⟨_, run_loadVar' hag hn (fun _ => u) (fun j hj => ?_), .c _ _ ht⟩
    have : j = 0 := by simpa using hj
    subst this; exact hu

def resV (tmps : Array Value) : ResultVar → Sem Value
  | .tmp t => pure (tmps.getD t undef)
  | .cell a t => do loadVar t (← asAddr (tmps.getD a undef))

theorem resD_ok {P : Program} {F : Fr} {s : S} {w : World} {g : Nat → Option GI} {tmps : Array Value} (hM : MemOk F g s.mem w) (henv : ∀ t, Tv g (Ok F g s.mem w) w (s.env t) (tmps.getD t undef)) {rv : ResultVar} {d : D} (h : resD P s rv = some d) :
    ∃ v, (resV tmps rv).run P w = .ok v w ∧ Tv g (Ok F g s.mem w) w d v := by
  cases rv with
  | tmp t => simp [resD] at h; subst h; exact ⟨_, rfl, henv t⟩
  | cell a t =>
    simp only [resD] at h
    split at h
    · rename_i id off ag n ha hag hn
      split at h
      · rename_i cs hm
        have hv := henv a
        rw [ha] at hv
        simp only [resV]
        generalize tmps.getD a undef = q at hv ⊢
        cases hv.cell rfl with
        | c _ _ h => cases h
        | box _ _ gi hg =>
          obtain ⟨gi', hg', hlv, c, T, h4, h5, h6⟩ := hM.ent id _ hm
          rw [hg] at hg'; cases hg'
          obtain ⟨v, h1, h2⟩ := readCells hag hn (b := gi.blk) (off := off) (cs := cs) (g := g) (A := Ok F g s.mem w) (w := w) (P := P) (fun j d hd => by
            have hlt : j < c.size := by
              rw [h5]
              rcases Nat.lt_or_ge j cs.length with h | h
              · exact h
              · simp [List.getElem?_eq_none h] at hd
            exact ⟨c[j], by rw [cell_of_row w _ _ c T (0, 0) h4]; simp [hlt], h6 j d _ hd (Array.getElem?_eq_getElem hlt)⟩) h
          exact ⟨v, by simp [asAddr, h1], h2⟩
      · cases h
    · cases h

theorem resAll_ok {P : Program} {F : Fr} {s : S} {w : World} {g : Nat → Option GI} {tmps : Array Value} (hM : MemOk F g s.mem w) (henv : ∀ t, Tv g (Ok F g s.mem w) w (s.env t) (tmps.getD t undef)) :
    ∀ (rvs : List ResultVar) (ds : List D), mapO (resD P s) rvs = some ds → ∃ vs, (rvs.mapM (resV tmps)).run P w = .ok vs w ∧ vs.length = ds.length ∧ ∀ (i : Nat) d u, ds[i]? = some d → vs[i]? = some u → Tv g (Ok F g s.mem w) w d u
  | [], ds, h => by simp [mapO] at h; subst h; exact ⟨[], by simp, rfl, by simp⟩
  | rv :: rvs, ds, h => by
    simp only [mapO] at h
    split at h
    · rename_i d ds' h1 h2
      cases h
      obtain ⟨v, k1, k2⟩ := resD_ok hM henv h1
      obtain ⟨vs, q1, q2, q3⟩ := resAll_ok hM henv rvs ds' h2
      refine ⟨v :: vs, by simp [List.mapM_cons, k1, q1], by simp [q2], fun i d u hd hu => ?_⟩
      cases i with
      | zero => simp at hd hu; subst hd; subst hu; exact k2
      | succ i => exact q3 i d u (by simpa using hd) (by simpa using hu)
    · simp at h

theorem run_results {P : Program} {fn : Func} {tmps : Array Value} {w : World} {vs : List Value} (h : (fn.results.toList.mapM (resV tmps)).run P w = .ok vs w) :
    (results fn tmps).run P w = .ok (if vs.length = 1 then vs.getD 0 undef else .tuple vs.toArray) w := by
  have e : (fn.results.mapM (resV tmps)).run P w = .ok vs.toArray w := by
    rw [Array.mapM_eq_mapM_toList, Sem.run_map, h]; rfl
  have e2 : results fn tmps = (do let vs ← fn.results.mapM (resV tmps); pure (if h : vs.size = 1 then vs[0] else .tuple vs)) := by
    unfold results
    congr 1
  rw [e2, Sem.run_bind, e]
  simp only [Result.andThen_ok, Sem.run_pure, List.size_toArray]
  by_cases h1 : vs.length = 1
  · obtain ⟨u, rfl⟩ := List.length_eq_one_iff.1 h1
    simp
  · simp [h1]

/-- One result, as it is handed back. -/
theorem rd_ok {F : Fr} {g : Nat → Option GI} {M : Mem} {w : World} (hM : MemOk F g M w) {d : D} {u : Value} (hv : Tv g (Ok F g M w) w d u) {rd : RD} (h : rdOf F.np M d = some rd) :
    ∃ gi? : Option GI, (∀ A : Nat → Prop, (∀ b, Ok F g M w b → A b) → RetOne A w rd gi? u) ∧
      ∀ gi, gi? = some gi → ∃ id e, ownId M d = some id ∧ M id = some e ∧ e.ex = true ∧ g id = some gi ∧ F.np ≤ id := by
  have byVal : (fz M false 2 d).map RD.d = some rd → ∃ gi? : Option GI, (∀ A : Nat → Prop, (∀ b, Ok F g M w b → A b) → RetOne A w rd gi? u) ∧
      ∀ gi, gi? = some gi → ∃ id e, ownId M d = some id ∧ M id = some e ∧ e.ex = true ∧ g id = some gi ∧ F.np ≤ id := by
    intro h
    obtain ⟨d', h1, rfl⟩ := Option.map_eq_some_iff.1 h
    refine ⟨none, fun A hA => ?_, by simp⟩
    show Rv A w d' u
    cases hv with
    | c _ _ hc => exact .c _ _ (.c _ _ (fz_ok hM hA (fun h => by simp at h) 2 hc.isCell hc h1))
    | agg cs us hl hr =>
      simp only [fz] at h1
      split at h1
      · rename_i cs' hcs
        cases h1
        refine .agg _ _ (by rw [hl, mapO_length hcs]) fun i d u hd hu => ?_
        obtain ⟨x, hx1, hx2⟩ := mapO_get hcs hd
        have ht := hr i x u hx1 hu
        exact .c _ _ (fz_ok hM hA (fun h => by simp at h) 1 ht.isCell ht hx2)
      · simp at h1
    | tup => simp [fz, fz0] at h1
    | junk => simp [fz, fz0] at h1
  unfold rdOf at h
  split at h
  · rename_i id
    split at h
    · rename_i sz es hm
      split at h
      · rename_i hnp
        cases h
        cases hv.cell rfl with
        | c _ _ h => cases h
        | row _ gi a c hg hn hc ha =>
          obtain ⟨gi', hg', hE⟩ := hM.ent id _ hm
          rw [hg] at hg'; cases hg'
          refine ⟨some gi, fun A hA => ⟨?_, a, c, rfl, hn, hc, ha⟩, fun gi' h => ?_⟩
          · obtain ⟨a0, a1, a2, a3, a4, a5⟩ := hE
            refine ⟨a0, a1, a2, a3, a4, fun hl => ?_⟩
            obtain ⟨_, c, T, b1, b2, b3⟩ := a5 hl
            exact ⟨fun h => by simp at h, c, T, b1, b2, fun i j e d u x y z => (b3 i j e d u x y z).mono fun b hb => ⟨hA b hb, rfl⟩⟩
          · cases h
            exact ⟨id, _, by simp [ownId, hm], hm, rfl, hg, hnp⟩
      · cases h
    · rename_i sz es hm
      cases h
      have hf : fz0 M false (.row id) = some (.sl sz es) := by simp [fz0, hm]
      refine ⟨none, fun A hA => ?_, by simp⟩
      exact .c _ _ (.c _ _ (fz0_ok hM hA (fun h => by simp at h) (hv.cell rfl) hf))
    · cases h
  · rename_i id
    split at h
    · rename_i cs hm
      split at h
      · rename_i hnp
        obtain ⟨cs', h1, rfl⟩ := Option.map_eq_some_iff.1 h
        cases hv.cell rfl with
        | c _ _ h => cases h
        | box _ _ gi hg =>
          obtain ⟨gi', hg', hlv, c, T, h4, h5, h6⟩ := hM.ent id _ hm
          rw [hg] at hg'; cases hg'
          refine ⟨some gi, fun A hA => ⟨⟨hlv, c, T, h4, by rw [h5, mapO_length h1], fun i d u hd hu => ?_⟩, rfl⟩, fun gi' h => ?_⟩
          · obtain ⟨x, hx1, hx2⟩ := mapO_get h1 hd
            have ht := h6 i x u hx1 hu
            exact .c _ _ (fz_ok hM hA (fun h => by simp at h) 1 ht.isCell ht hx2)
          · cases h
            exact ⟨id, _, rfl, hm, rfl, hg, hnp⟩
      · cases h
    · cases h
  · rename_i id
    split at h
    · rename_i kvs hm
      split at h
      · rename_i hnp
        cases h
        cases hv.cell rfl with
        | c _ _ h => cases h
        | mp _ gi hg =>
          obtain ⟨gi', hg', hlv, _, es, h4, h5, h6⟩ := hM.ent id _ hm
          rw [hg] at hg'; cases hg'
          refine ⟨some gi, fun A hA => ⟨⟨hlv, fun h => by simp at h, es, h4, h5, h6.mono fun b hb => ⟨hA b hb, rfl⟩⟩, rfl⟩, fun gi' h => ?_⟩
          cases h
          exact ⟨id, _, rfl, hm, rfl, hg, hnp⟩
      · cases h
    · cases h
  · exact byVal h

theorem ownId_get {M : Mem} {ds : List D} {rds : List RD} {np : Nat} (h : mapO (rdOf np M) ds = some rds) : rds.length = ds.length := mapO_length h

theorem nodup_filterMap {f : D → Option Nat} : ∀ {l : List D}, (l.filterMap f).Nodup → ∀ {i j : Nat} {x y : D} {a : Nat}, i ≠ j → l[i]? = some x → l[j]? = some y → f x = some a → f y ≠ some a
  | [], _, i, j, x, y, a, _, h, _, _ => by simp at h
  | d :: l, hn, i, j, x, y, a, hij, hi, hj, hx => by
    intro hy
    have mem : ∀ {k : Nat} {z : D}, l[k]? = some z → f z = some a → a ∈ l.filterMap f := fun hk hz => List.mem_filterMap.2 ⟨_, List.mem_of_getElem? hk, hz⟩
    cases i with
    | zero =>
      cases j with
      | zero => exact hij rfl
      | succ j =>
        simp at hi hj; subst hi
        rw [List.filterMap_cons_some hx, List.nodup_cons] at hn
        exact hn.1 (mem hj hy)
    | succ i =>
      cases j with
      | zero =>
        simp at hi hj; subst hj
        rw [List.filterMap_cons_some hy, List.nodup_cons] at hn
        exact hn.1 (mem hi hx)
      | succ j =>
        have hn' : (l.filterMap f).Nodup := by
          cases hd : f d with
          | none => rw [List.filterMap_cons_none hd] at hn; exact hn
          | some b => rw [List.filterMap_cons_some hd, List.nodup_cons] at hn; exact hn.2
        exact nodup_filterMap (i := i) (j := j) hn' (by omega) (by simpa using hi) (by simpa using hj) hx hy

/-- A function's body keeps its contract. -/
theorem ok_of_body {P : Program} {f : FuncId} {c : Con} {fn : Func} {code : Code} (n np : Nat) (hf : P.funcs[f]? = some fn) (hb : fn.body = some code) (hname : (fn.name == "runtime.NumGoroutine") = false) (hn : fn.ntmps = n)
    (hargs : ∀ a, c.pre a → (c.args a).length = np ∧ (c.args a).map AD.isIo = c.kinds) (hnp : np ≤ n) (clean : c.clean = true → ∀ a r, c.pre a → c.post a r → r.ret.all plainRD = true)
    (h : ∀ a, c.pre a → AW P n np code (RetQ P np c.kinds fn.results.toList (c.post a)) (initS (c.args a))) : CallOk P f c := by
  refine ⟨⟨fn, hf, by rw [hb]; rfl, hname⟩, clean, fun a hp w A io vs hA hnd hio hAlt => ?_⟩
  obtain ⟨hlen, hkinds⟩ := hargs a hp
  have hvl := hA.length
  refine calls_of_wp hf hb ?_
  generalize hargsD : c.args a = al at *
  let F : Fr := { w0 := w, A := A, io := io, n := n, np := np, pb := pbOf al io }
  have hFB : F.B = w.heap.size := rfl
  -- the ghosts at the start
  let g0 : Nat → Option GI := fun j => match pbOf al io j, al[j]? with
    | some b, some (.io cs) => some ⟨b, cs.length, 0, 0, true⟩
    | _, _ => none
  have hg0 : ∀ {j cs}, al[j]? = some (.io cs) → ∃ b c T, g0 j = some ⟨b, cs.length, 0, 0, true⟩ ∧ pbOf al io j = some b ∧ b ∈ io ∧ vs[j]? = some (.pointer (some ⟨b, 0, none⟩)) ∧ w.heap[b]? = some (.cells c T (0, 0)) ∧ c.size = cs.length ∧
      ∀ (i : Nat) d u, cs[i]? = some d → c[i]? = some u → Tc (fun _ => none) A w d u := by
    intro j cs hj
    obtain ⟨b, c, T, k1, k2, k3, k4, k5, k6⟩ := hA.io_at j cs hj
    exact ⟨b, c, T, by simp only [g0, k1, hj], k1, k2, k3, k4, k5, k6⟩
  have hmem : ∀ {id e}, (initS al).mem id = some e → ∃ cs, al[id]? = some (.io cs) ∧ e = .cells cs := by
    intro id e he
    simp only [initS] at he
    split at he
    · rename_i cs hh; cases he; exact ⟨cs, hh, rfl⟩
    · cases he
  have hAok : ∀ b, A b → Ok F g0 (initS al).mem w b := by
    intro b hb'
    refine ⟨hAlt b hb', fun _ => hb', fun id e gi hm hx hg hlv hbe => ?_⟩
    obtain ⟨cs, h1, rfl⟩ := hmem hm
    obtain ⟨b', c', T, k1, k2, k3, _⟩ := hg0 h1
    rw [hg] at k1; cases k1
    subst hbe
    exact (hio _ k3).2 hb'
  have hM0 : MemOk F g0 (initS al).mem w := by
    refine ⟨fun id e hm => ?_, fun id gi hg => ?_, fun i j ei ej gi gj hij hi hj _ _ hgi hgj _ _ => ?_, fun i e gi hm _ hg _ => ?_, fun i e gi hnp' hm _ hg _ => ?_, Nat.le_refl _, fun _ _ _ => rfl, rfl, rfl, rfl, Nat.le_refl _, fun b hb' => (hio b hb').2, fun j b hb' => ?_⟩
    · obtain ⟨cs, h1, rfl⟩ := hmem hm
      obtain ⟨b, c', T, k1, k2, k3, k4, k5, k6, k7⟩ := hg0 h1
      exact ⟨_, k1, rfl, c', T, k5, k6, fun i d u hd hu => (k7 i d u hd hu).mono ⟨fun _ _ h => by simp at h, fun b hb' => ⟨hAok b hb', rfl⟩⟩⟩
    · simp only [g0] at hg
      split at hg
      · rename_i b cs h1 h2; exact ⟨.cells cs, by simp [initS, h2]⟩
      · cases hg
    · obtain ⟨cs, h1, rfl⟩ := hmem hi
      obtain ⟨cs', h1', rfl⟩ := hmem hj
      obtain ⟨b, c', T, k1, k2, _⟩ := hg0 h1
      obtain ⟨b', c'', T', q1, q2, _⟩ := hg0 h1'
      rw [hgi] at k1; cases k1
      rw [hgj] at q1; cases q1
      intro hbe
      simp only at hbe
      subst hbe
      exact hij (hA.pbinj hnd i j _ k2 q2)
    · obtain ⟨cs, h1, rfl⟩ := hmem hm
      obtain ⟨b, c', T, k1, k2, k3, _⟩ := hg0 h1
      rw [hg] at k1; cases k1
      exact ⟨(hio _ k3).1, fun _ => k3⟩
    · obtain ⟨cs, h1, rfl⟩ := hmem hm
      have : i < al.length := by
        rcases Nat.lt_or_ge i al.length with h | h
        · exact h
        · simp [List.getElem?_eq_none h] at h1
      have : np ≤ i := hnp'
      omega
    · obtain ⟨k1, k2, cs, k3⟩ := hA.pb j b hb'
      obtain ⟨b', c', T, q1, q2, _⟩ := hg0 k3
      have hbb : pbOf al io j = some b := hb'
      rw [hbb] at q2; cases q2
      exact ⟨by show j < np; omega, _, q1, rfl⟩
  have hI : Inv F (initS al) { tmps := vs.toArray ++ Array.replicate (fn.ntmps - vs.toArray.size) undef, defers := [] } w := by
    refine ⟨rfl, ?_, g0, hM0, fun t => ?_⟩
    · simp only [Array.size_append, Array.size_replicate, List.size_toArray, hn]
      show _ = n
      omega
    · simp only [initS]
      split
      · rename_i x hx
        obtain ⟨v, hv1, hv2⟩ := hA.d_at t x hx
        have hlt : t < vs.length := by
          rcases Nat.lt_or_ge t vs.length with h | h
          · exact h
          · simp [List.getElem?_eq_none h] at hv1
        have : (vs.toArray ++ Array.replicate (fn.ntmps - vs.toArray.size) undef).getD t undef = v := by
          rw [Array.getD_eq_getD_getElem?, Array.getElem?_append_left (by simpa using hlt)]
          simp [hv1]
        rw [this]
        exact Tv.noId (hv2.world fun b hb' => ⟨hAok b hb', rfl⟩)
      · rename_i cs hx
        obtain ⟨b, c', T, k1, k2, k3, k4, k5, k6, k7⟩ := hg0 hx
        have hlt : t < vs.length := by
          rcases Nat.lt_or_ge t vs.length with h | h
          · exact h
          · simp [List.getElem?_eq_none h] at k4
        have : (vs.toArray ++ Array.replicate (fn.ntmps - vs.toArray.size) undef).getD t undef = .pointer (some ⟨b, 0, none⟩) := by
          rw [Array.getD_eq_getD_getElem?, Array.getElem?_append_left (by simpa using hlt)]
          simp [k4]
        rw [this]
        exact .c _ _ (.box t 0 _ k1)
      · exact .junk _
  have haw := h a hp
  rw [hargsD] at haw
  refine wp_mono (haw F _ w rfl rfl hI) ?_
  rintro e a' w' ⟨s, ⟨hdef, htm, g, hM, henv⟩, hq⟩
  -- the end
  have fin : RetS P np c.kinds fn.results.toList (c.post a) s → ∃ v, (results fn a'.tmps).run P w' = .ok v w' ∧ ∃ v' r, Ending.returned v = .returned v' ∧ c.post a r ∧ RetOk A w io r v' w' := by
    rintro ⟨ds, h1, M1, hM1, rds, ios, h2, h3, h4, h5⟩
    obtain ⟨vs', k1, k2, k3⟩ := resAll_ok hM henv _ _ h1
    obtain ⟨f1, f2⟩ := frzR_ok ds hM
    obtain ⟨f3, f4⟩ := frzA_ok (ioBoxes c.kinds 0) f1
    have f5 := f2.trans f4
    rw [show frzA F.np (frzR F.np s.mem ds) (ioBoxes c.kinds 0) = M1 from hM1.symm] at f3 f5
    have hrl : rds.length = ds.length := mapO_length h2
    refine ⟨_, run_results k1, _, ⟨rds, ios⟩, rfl, h5, ?_⟩
    -- ghosts of the results
    have hG : ∀ i, ∃ gi? : Option GI, i < ds.length → ∃ d rd u, ds[i]? = some d ∧ rds[i]? = some rd ∧ vs'[i]? = some u ∧ (∀ A : Nat → Prop, (∀ b, Ok F g M1 w' b → A b) → RetOne A w' rd gi? u) ∧
        ∀ gi, gi? = some gi → ∃ id e, ownId M1 d = some id ∧ M1 id = some e ∧ e.ex = true ∧ g id = some gi ∧ F.np ≤ id := by
      intro i
      by_cases hi : i < ds.length
      · have hd : ds[i]? = some ds[i] := List.getElem?_eq_getElem hi
        have hu : vs'[i]? = some (vs'[i]'(by omega)) := List.getElem?_eq_getElem (by omega)
        obtain ⟨rd, hrd1, hrd2⟩ := mapO_get' h2 hd
        obtain ⟨gi?, q1, q2⟩ := rd_ok f3 ((k3 i _ _ hd hu).mono f5) hrd2
        exact ⟨gi?, fun _ => ⟨_, rd, _, hd, hrd1, hu, q1, q2⟩⟩
      · exact ⟨none, fun h => absurd h hi⟩
    obtain ⟨G, hG⟩ := Classical.axiomOfChoice hG
    have hgis : ∀ (i : Nat) gi?, ((List.range ds.length).map G)[i]? = some gi? → i < ds.length ∧ G i = gi? := by
      intro i gi? hh
      by_cases hi : i < ds.length
      · simp [hi] at hh; exact ⟨hi, hh⟩
      · simp [hi] at hh
    have hgisM : ∀ gi, some gi ∈ (List.range ds.length).map G → ∃ i, i < ds.length ∧ G i = some gi := by
      intro gi hh
      obtain ⟨i, hi, he⟩ := List.mem_map.1 hh
      exact ⟨i, by simpa using hi, he⟩
    have hRA : ∀ b, Ok F g M1 w' b → RetA A w w' ((List.range ds.length).map G) b := by
      rintro b ⟨b1, b2, b3⟩
      refine ⟨b1, b2, fun gi hgi hlv => ?_⟩
      obtain ⟨i, hi, he⟩ := hgisM gi hgi
      obtain ⟨d, rd, u, q1, q2, q3, q4, q5⟩ := hG i hi
      obtain ⟨id, e, r1, r2, r3, r4, r5⟩ := q5 gi he
      exact b3 id e gi r2 r3 r4 hlv
    have hiosP := hkinds ▸ h3
    obtain ⟨io1, io2⟩ := hA.ioOut (M := M1) 0 ios (by rw [hkinds]; exact h3)
    refine ⟨f3.size, fun b hb' hnb => f3.old b hb' hnb, f3.os, f3.tape, f3.output, f3.dr, (List.range ds.length).map G, vs', rfl, by simp [k2, hrl], by simp [hrl], fun i rd gi u hrd hgi hu => ?_, fun gi hgi hlv => ?_, fun i j gi gj hij hgi hgj hli hlj => ?_, io1, fun k b cs hb' hc => ?_⟩
    · obtain ⟨hi, he⟩ := hgis i gi hgi
      obtain ⟨d, rd', u', q1, q2, q3, q4, q5⟩ := hG i hi
      simp only at hrd
      rw [hrd] at q2; cases q2
      rw [hu] at q3; cases q3
      rw [he] at q4
      exact q4 _ hRA
    · obtain ⟨i, hi, he⟩ := hgisM gi hgi
      obtain ⟨d, rd, u, q1, q2, q3, q4, q5⟩ := hG i hi
      obtain ⟨id, e, r1, r2, r3, r4, r5⟩ := q5 gi he
      exact ⟨f3.hi id e gi r5 r2 r3 r4 hlv, (f3.lo id e gi r2 r3 r4 hlv).1⟩
    · obtain ⟨hi, he⟩ := hgis i _ hgi
      obtain ⟨hj, he'⟩ := hgis j _ hgj
      obtain ⟨d, rd, u, q1, q2, q3, q4, q5⟩ := hG i hi
      obtain ⟨id, e, r1, r2, r3, r4, r5⟩ := q5 gi he
      obtain ⟨d', rd', u', p1, p2, p3, p4, p5⟩ := hG j hj
      obtain ⟨id', e', s1, s2, s3, s4, s5⟩ := p5 gj he'
      refine f3.inj id id' e e' gi gj (fun hh => ?_) r2 s2 r3 s3 r4 s4 hli hlj
      subst hh
      exact nodup_filterMap h4 hij q1 p1 r1 s1
    · obtain ⟨i, cs0, q1, q2, q3⟩ := io2 k b cs hb' hc
      rw [Nat.zero_add] at q2
      obtain ⟨hi, gi, r1, r2⟩ := f3.par i b q1
      obtain ⟨gi', hg', hlv, c', T, s1, s2, s3⟩ := f3.ent i _ q2
      rw [r1] at hg'; cases hg'
      subst r2
      refine ⟨c', T, s1, by rw [s2, mapO_length q3], fun j d u hd hu => ?_⟩
      obtain ⟨x, hx1, hx2⟩ := mapO_get q3 hd
      have ht := s3 j x u hx1 hu
      exact .c _ _ (fz_ok f3 hRA (fun h => by simp at h) 1 ht.isCell ht hx2)
  cases e with
  | normal => exact ⟨hdef, fin hq⟩
  | ret => exact ⟨hdef, fin hq⟩
  | exit id => exact hq.elim
  | goto l => exact hq.elim
  | panic ch => exact hq.elim
  | outgrown => exact hq.elim

end Go.Abs
