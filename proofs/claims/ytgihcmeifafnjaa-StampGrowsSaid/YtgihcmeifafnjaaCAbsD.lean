/- The abstract machine, fourth part: each operation does in the model what it does to the state. -/
import Derived.Test.YtgihcmeifafnjaaCAbsC
set_option linter.unusedVariables false
set_option linter.unusedSimpArgs false
namespace Go.Abs
open Go

/-- The model's step arrives where the state's step says. -/
def SR (F : Fr) (g : Nat → Option GI) (M : Mem) (w : World) (nx : D → Mem → Prop) (v : Value) (w' : World) : Prop :=
  ∃ d M' g', nx d M' ∧ MemOk F g' M' w' ∧ Le g (Ok F g M w) w g' (Ok F g' M' w') w' ∧ Tv g' (Ok F g' M' w') w' d v

theorem SR.plain {F : Fr} {g M w nx} {d : D} {v : Value} (hM : MemOk F g M w) (hn : nx d M) (hv : Tv g (Ok F g M w) w d v) : SR F g M w nx v w :=
  ⟨d, M, g, hn, hM, Le.refl _ _ _, hv⟩

theorem SR.drawn {F : Fr} {g M w nx} {d : D} {v : Value} (hM : MemOk F g M w) (hn : nx d M) (hv : Tv g (Ok F g M w) w d v) (w' : World)
    (hh : w'.heap = w.heap) (hos : w'.os = w.os) (htape : w'.tape = w.tape) (hout : w'.output = w.output) (hdr : w.drawn ≤ w'.drawn := by first | assumption | exact Nat.le_refl _ | exact Nat.le_succ _) : SR F g M w nx v w' := by
  obtain ⟨h1, h2⟩ := hM.same hh hos htape hout
  exact ⟨d, M, g, hn, h1, h2, hv.mono h2⟩

theorem SR.then {F : Fr} {g M w nx v w1 g1 M1} (h1 : MemOk F g1 M1 w1) (hL : Le g (Ok F g M w) w g1 (Ok F g1 M1 w1) w1) {w' : World} (h : SR F g1 M1 w1 nx v w') : SR F g M w nx v w' := by
  obtain ⟨d, M', g', a, b, c, e⟩ := h
  exact ⟨d, M', g', a, b, hL.trans c, e⟩

theorem Tc.isCell {g A w d u} (h : Tc g A w d u) : isCell d = true := by
  cases h with
  | c d u h => cases h <;> rfl
  | _ => rfl

theorem cellD_ok {A : Nat → Prop} {w : World} {x : Value} (h : isCell (cellD x) = true) : Rc A w (cellD x) x := by
  unfold cellD at h ⊢
  split
  · exact .nils
  · split at h
    · exact (by simp_all)
    · split at h
      · rename_i hf; rw [if_pos hf]; exact .v x hf
      · simp [isCell] at h

theorem Tv.cell {g A w d u} (h : Tv g A w d u) (hc : isCell d = true) : Tc g A w d u := by
  cases h with
  | c d u h => exact h
  | agg => simp [Abs.isCell] at hc
  | tup => simp [Abs.isCell] at hc
  | junk => simp [Abs.isCell] at hc

/-- The cells of a value. -/
theorem Tv.cells {g A w d u} (h : Tv g A w d u) (hc : (cellsD d).all isCell = true) :
    u.cells.size = (cellsD d).length ∧ ∀ (i : Nat) d' u', (cellsD d)[i]? = some d' → u.cells[i]? = some u' → Tc g A w d' u' := by
  cases h with
  | c d u h =>
    have h1 := h.isCell
    have h2 : cellsD d = [d] := by cases d <;> simp_all [Abs.isCell, cellsD]
    have h3 : u.cells = #[u] := by have := h.one; cases u <;> simp_all [Value.cells, Value.oneCell']
    rw [h2, h3]
    refine ⟨rfl, fun i d' u' a b => ?_⟩
    cases i with
    | zero => simp at a b; subst a; subst b; exact h
    | succ i => simp at a
  | agg cs us hl hr => exact ⟨hl, hr⟩
  | tup ds us hl hr => simp [cellsD, Abs.isCell] at hc
  | junk u => simp [cellsD, Abs.isCell] at hc

theorem zc_spec {P : Program} {t : TypeId} {cs : List D} (h : zc P t = some cs) : ∃ i z, P.info? t = some i ∧ i.zero = some z ∧ cs = z.cells.toList.map cellD := by
  unfold zc at h
  cases hi : P.info? t with
  | none => simp [hi] at h
  | some i =>
    cases hz : i.zero with
    | none => simp [hi, hz] at h
    | some z => simp [hi, hz] at h; exact ⟨i, z, rfl, hz, h.symm⟩

theorem run_zeroValue {P : Program} {t : TypeId} {i : TypeInfo} {z : Value} (hi : P.info? t = some i) (hz : i.zero = some z) (w : World) : (zeroValue t).run P w = .ok z w := by
  simp [zeroValue, typeInfo, hi, hz]
theorem run_sizeOf' {P : Program} {t : TypeId} {n : Nat} (h : szT P t = some n) (w : World) : (sizeOf t).run P w = .ok n w := by
  unfold szT at h
  cases hi : P.info? t with
  | none => simp [hi] at h
  | some i => simp [hi] at h; simp [sizeOf, typeInfo, hi, h]
theorem run_isAgg' {P : Program} {t : TypeId} {b : Bool} (h : agT P t = some b) (w : World) : (isAgg t).run P w = .ok b w := by
  unfold agT at h
  cases hi : P.underlying t with
  | none => simp [hi] at h
  | some d => cases d <;> simp [hi] at h <;> subst h <;> simp [isAgg, underlying, hi]

/-- A new variable with the cells of a value. -/
theorem new_cells {F : Fr} {g M w} (hM : MemOk F g M w) {fid : Nat} (hf : M fid = none) (c : Array Value) (T : TypeId) (cs : List D) (hl : c.size = cs.length)
    (hr : ∀ (i : Nat) d u, cs[i]? = some d → c[i]? = some u → Tc g (Ok F g M w) w d u) (nx : D → Mem → Prop) (hn : nx (.box fid 0) (upd M fid (some (.cells cs)))) :
    SR F g M w nx (.pointer (some ⟨w.heap.size, 0, none⟩)) { w with heap := w.heap.push (.cells c T (0, 0)) } := by
  obtain ⟨h1, h2⟩ := hM.alloc hf (.cells c T (0, 0)) (.cells cs) ⟨w.heap.size, c.size, 0, 0, true⟩ rfl
    (fun hL => ⟨rfl, c, T, by simp, hl, fun i d u a b => (hr i d u a b).mono hL⟩)
  exact ⟨_, _, _, hn, h1, h2, .c _ _ (.box fid 0 ⟨w.heap.size, c.size, 0, 0, true⟩ (by simp))⟩

theorem alloc_ok {P : Program} {F : Fr} {g M w} (hM : MemOk F g M w) {t : TypeId} {fid : Nat} {nx} (h : semAlloc P t M fid nx) :
    ∃ v w', (Instr.alloc t true (.tuple #[])).run P w = .ok v w' ∧ SR F g M w nx v w' := by
  unfold semAlloc at h
  split at h
  · rename_i cs hz
    obtain ⟨i, z, hi, hz', rfl⟩ := zc_spec hz
    obtain ⟨hc, hf, hn⟩ := h
    refine ⟨_, _, ?_, new_cells hM hf z.cells t _ (by simp) (fun j d u a b => ?_) nx hn⟩
    · simp [Instr.alloc, run_zeroValue hi hz', newVar, newRow]
    · simp only [List.getElem?_map, Array.getElem?_toList, b, Option.map_some, Option.some.injEq] at a
      subst a
      refine .c _ _ (cellD_ok ?_)
      rw [List.all_eq_true] at hc
      exact hc _ (List.mem_map.2 ⟨u, by simpa using Array.mem_of_getElem? b, rfl⟩)
  · exact h.elim

theorem box_ok {P : Program} {F : Fr} {g M w} (hM : MemOk F g M w) {t : TypeId} {fid : Nat} {nx} {d : D} {u : Value} (hv : Tv g (Ok F g M w) w d u) (h : semBox d M fid nx) :
    ∃ v w', (Instr.box t u).run P w = .ok v w' ∧ SR F g M w nx v w' := by
  obtain ⟨hc, hf, hn⟩ := h
  obtain ⟨h1, h2⟩ := hv.cells hc
  refine ⟨_, _, ?_, new_cells hM hf u.cells t _ h1 h2 nx hn⟩
  simp [Instr.box, newVar, newRow]

theorem addp (b off i : Nat) : (⟨b, off, none⟩ : Addr).add i = ⟨b, off + i, none⟩ := by
  unfold Addr.add; split <;> simp_all

theorem run_loadVar' {P : Program} {t : TypeId} {ag : Bool} {n : Nat} (hag : agT P t = some ag) (hn : szT P t = some n) {w : World} {b o : Nat} (X : Nat → Value)
    (h : ∀ j, j < (if ag then n else 1) → w.cell? ⟨b, o + j, none⟩ = some (X j)) :
    (loadVar t ⟨b, o, none⟩).run P w = .ok (if ag then .agg ((List.range n).map X).toArray else X 0) w := by
  cases ag with
  | true =>
    simp only [if_true] at h ⊢
    have := run_loadCells (P := P) w ⟨b, o, none⟩ n X (fun j hj => by rw [addp]; exact h j hj)
    simp [loadVar, run_isAgg' hag, run_sizeOf' hn, this]
  | false =>
    have h0 := h 0 (by simp)
    simp only [Nat.add_zero] at h0
    simp [loadVar, run_isAgg' hag, h0]

/-- Some cells of memory, read. -/
theorem getCells_ok {P : Program} {F : Fr} {g M w nx} (hM : MemOk F g M w) {t : TypeId} {ag : Bool} {n : Nat} (hag : agT P t = some ag) (hn : szT P t = some n)
    {b base off : Nat} {cs : List D} (hc : ∀ (j : Nat) d, cs[j]? = some d → ∃ u, w.cell? ⟨b, base + j, none⟩ = some u ∧ Tc g (Ok F g M w) w d u)
    (h : getCells ag n cs off M nx) : ∃ v w', (loadVar t ⟨b, base + off, none⟩).run P w = .ok v w' ∧ SR F g M w nx v w' := by
  unfold getCells at h
  cases ag with
  | true =>
    simp only [if_true] at h
    obtain ⟨hle, hnx⟩ := h
    have hX : ∀ j, ∃ u, j < n → w.cell? ⟨b, base + off + j, none⟩ = some u ∧ ∀ d, cs[off + j]? = some d → Tc g (Ok F g M w) w d u := by
      intro j
      by_cases hj : j < n
      · obtain ⟨u, hu, ht⟩ := hc (off + j) (cs[off + j]'(by omega)) (List.getElem?_eq_getElem (by omega))
        exact ⟨u, fun _ => ⟨by rw [Nat.add_assoc]; exact hu, fun d hd => by rw [List.getElem?_eq_getElem (by omega)] at hd; cases hd; exact ht⟩⟩
      · exact ⟨undef, fun h => absurd h hj⟩
    obtain ⟨X, hX⟩ := Classical.axiomOfChoice hX
    refine ⟨_, _, run_loadVar' hag hn X (fun j hj => (hX j (by simpa using hj)).1), ?_⟩
    simp only [if_true]
    refine SR.plain hM hnx (.agg _ _ (by simp; omega) fun i d u hd hu => ?_)
    by_cases hi : i < n
    · simp [hi] at hu
      rw [List.getElem?_take, if_pos hi, List.getElem?_drop] at hd
      rw [← hu]; exact (hX i hi).2 d hd
    · simp [hi] at hu
  | false =>
    simp only [Bool.false_eq_true, if_false, getCell] at h
    split at h
    · rename_i x hx
      obtain ⟨u, hu, ht⟩ := hc off x hx
      refine ⟨_, _, run_loadVar' hag hn (fun _ => u) (fun j hj => ?_), ?_⟩
      · have : j = 0 := by simpa using hj
        subst this; exact hu
      · exact SR.plain hM h (.c _ _ ht)
    · exact h.elim

/-- The cells behind an exclusive or frozen row. -/
theorem MemOk.rowCell {F : Fr} {g M w} (hM : MemOk F g M w) {id sz : Nat} {es : List (List D)} {ex : Bool} (hm : M id = some (.row sz es ex)) {gi : GI} (hg : g id = some gi)
    {i : Nat} {e : List D} (he : es[i]? = some e) (j : Nat) (d : D) (hd : e[j]? = some d) : gi.live = true ∧ ∃ u, w.cell? ⟨gi.blk, i * sz + j, none⟩ = some u ∧ Rc (Ok F g M w) w d u := by
  obtain ⟨gi', hg', hE⟩ := hM.ent id _ hm
  rw [hg] at hg'; cases hg'
  obtain ⟨h0, h1, h2, h3, hz, hA⟩ := hE
  have hlv : gi.live = true := by
    cases hl : gi.live with
    | true => rfl
    | false => have := (hz hl).1; subst this; simp at he
  obtain ⟨hA, c, T, h4, h5, h6⟩ := hA hlv
  have hlt : i < es.length := by
    rcases Nat.lt_or_ge i es.length with h | h
    · exact h
    · simp [List.getElem?_eq_none h] at he
  have hj : j < sz := by
    have := h2 e (List.mem_of_getElem? he)
    rcases Nat.lt_or_ge j e.length with h | h
    · omega
    · simp [List.getElem?_eq_none h] at hd
  have hb : i * sz + j < c.size := by
    have : (i + 1) * sz ≤ es.length * sz := Nat.mul_le_mul_right _ hlt
    have : i * sz + sz ≤ es.length * sz := by rw [← Nat.succ_mul]; exact this
    omega
  refine ⟨hlv, c[i * sz + j], ?_, h6 i j e d _ he hd (Array.getElem?_eq_getElem hb)⟩
  rw [cell_of_row w _ _ c T (0, 0) h4]
  exact Array.getElem?_eq_getElem hb

theorem load_ok {P : Program} {F : Fr} {g M w nx} (hM : MemOk F g M w) {t : TypeId} {p : D} {u : Value} (hp : Tv g (Ok F g M w) w p u) (h : semLoad P t p M nx) :
    ∃ v w', (Instr.loadAt t u).run P w = .ok v w' ∧ SR F g M w nx v w' := by
  unfold semLoad at h
  split at h
  · rename_i ag n hag hn
    split at h
    · rename_i id off
      split at h
      · rename_i cs hm
        cases hp.cell rfl with
        | c _ _ h => cases h
        | box _ _ gi hg =>
          obtain ⟨gi', hg', hlv, c, T, h4, h5, h6⟩ := hM.ent id _ hm
          rw [hg] at hg'; cases hg'
          have := getCells_ok (P := P) (b := gi.blk) (base := 0) hM hag hn (cs := cs) (fun j d hd => ?_) h
          · simpa [Instr.loadAt, Instr.sureAddr] using this
          · have hlt : j < c.size := by
              rw [h5]
              rcases Nat.lt_or_ge j cs.length with h | h
              · exact h
              · simp [List.getElem?_eq_none h] at hd
            refine ⟨c[j], ?_, h6 j d _ hd (Array.getElem?_eq_getElem hlt)⟩
            rw [cell_of_row w _ _ c T (0, 0) h4]; simp [hlt]
      · exact h.elim
    · rename_i id i off
      split at h
      · rename_i sz es ex hm
        cases hp.cell rfl with
        | c _ _ h => cases h
        | elt _ _ _ gi hg hi =>
          obtain ⟨gi', hg', hE⟩ := hM.ent id _ hm
          rw [hg] at hg'; cases hg'
          split at h
          case h_2 => exact h.elim
          rename_i e he
          have := getCells_ok (P := P) (b := gi.blk) (base := i * gi.sz) hM hag hn (cs := e) (fun j d hd => ?_) h
          · simpa [Instr.loadAt, Instr.sureAddr] using this
          · rw [hE.1]
            obtain ⟨_, u, h1, h2⟩ := hM.rowCell hm hg he j d hd
            exact ⟨u, h1, .c _ _ h2⟩
      · exact h.elim
    · rename_i sz es i off
      cases hp.cell rfl with
      | c _ _ hr =>
        cases hr with
        | rp _ _ _ _ b o X hsz hi hA hc hr =>
          have he : es[i]? = some es[i] := List.getElem?_eq_getElem hi
          rw [he] at h
          have := getCells_ok (P := P) (b := b) (base := o + i * sz) hM hag hn (cs := es[i]) (fun j d hd => ?_) h
          · simpa [Instr.loadAt, Instr.sureAddr] using this
          · have hj : j < sz := by
              have := hsz es[i] (List.getElem_mem hi)
              rcases Nat.lt_or_ge j es[i].length with h | h
              · omega
              · simp [List.getElem?_eq_none h] at hd
            exact ⟨_, hc i j hi hj, .c _ _ (hr i j _ _ he hd)⟩
    · exact h.elim
  · exact h.elim

end Go.Abs
