/- The abstract machine, seventh part: what makes memory: composite values, slices, append. -/
import Derived.Test.YtgihcmeifafnjaaCAbsF
import Derived.IntWalk
set_option linter.unusedVariables false
set_option linter.unusedSimpArgs false
namespace Go.Abs
open Go
open Go.Great (foldl_set)

/-- One part goes into the cells. -/
theorem foldl_splice (off : Nat) (l : Array Value) (cs : Array Value) (h : off + l.size ≤ cs.size) :
    (l.zipIdx.foldl (fun cs (x : Value × Nat) => cs.setIfInBounds (off + x.2) x.1) cs).size = cs.size ∧
    ∀ k, (l.zipIdx.foldl (fun cs (x : Value × Nat) => cs.setIfInBounds (off + x.2) x.1) cs)[k]? = if k < off then cs[k]? else if k < off + l.size then l[k - off]? else cs[k]? := by
  have := foldl_set off l.toList 0 cs
  have e : l.zipIdx.foldl (fun cs (x : Value × Nat) => cs.setIfInBounds (off + x.2) x.1) cs = (l.toList.zipIdx 0).foldl (fun cs (x : Value × Nat) => cs.setIfInBounds (off + x.2) x.1) cs := by
    rw [← Array.foldl_toList, Array.toList_zipIdx]
  rw [e]
  refine ⟨this.1, fun k => ?_⟩
  rw [this.2 k]
  simp only [Nat.add_zero, Array.length_toList, Array.getElem?_toList]
  by_cases h1 : k < off
  · rw [if_neg (by omega), if_pos h1]
  · rw [if_neg h1]
    by_cases h2 : k < off + l.size
    · rw [if_pos (by omega), if_pos h2]
    · rw [if_neg (by omega), if_neg h2]

theorem szT_zc {P : Program} {t : TypeId} {zs : List D} (hz : zc P t = some zs) : ∃ i z, P.info? t = some i ∧ i.zero = some z ∧ zs = z.cells.toList.map cellD := zc_spec hz

/-- 'fill' of a composite value, beside fillD. -/
theorem fill_ok {g A w} {place : Nat → Option (Nat × Nat)} : ∀ (parts : List (Nat × D)) (vals : List (Nat × Value)) (cs cs' : List D) (c : Array Value),
    vals.length = parts.length → (∀ (i : Nat) p v, parts[i]? = some p → vals[i]? = some v → p.1 = v.1 ∧ Tv g A w p.2 v.2) → (∀ (i : Nat) p, parts[i]? = some p → (cellsD p.2).all isCell = true) →
    c.size = cs.length → (∀ (i : Nat) d u, cs[i]? = some d → c[i]? = some u → Tc g A w d u) → fillD place cs parts = some cs' →
    ∃ c', Instr.fill place c vals = some c' ∧ c'.size = cs'.length ∧ cs'.length = cs.length ∧ ∀ (i : Nat) d u, cs'[i]? = some d → c'[i]? = some u → Tc g A w d u
  | [], [], cs, cs', c, _, _, _, hl, hr, h => by
    simp only [fillD, Option.some.injEq] at h; subst h
    exact ⟨c, rfl, hl, rfl, hr⟩
  | [], _ :: _, _, _, _, hn, _, _, _, _, _ => by simp at hn
  | _ :: _, [], _, _, _, hn, _, _, _, _, _ => by simp at hn
  | (i, d) :: parts, (i', v) :: vals, cs, cs', c, hn, hp, hc, hl, hr, h => by
    obtain ⟨rfl, hv⟩ := hp 0 (i, d) (i', v) rfl rfl
    simp only at hv
    simp only [fillD] at h
    split at h
    · rename_i off n hpl
      split at h
      · rename_i hcond
        obtain ⟨h1, h2⟩ := hcond
        obtain ⟨hs, hcr⟩ := hv.cells (hc 0 (i, d) rfl)
        obtain ⟨e1, e2⟩ := foldl_splice off v.cells c (by omega)
        obtain ⟨c', k1, k2, k3, k4⟩ := fill_ok parts vals (splice cs off (cellsD d)) cs' _ (by simpa using hn)
          (fun j p q hp' hq' => hp (j + 1) p q (by simpa using hp') (by simpa using hq')) (fun j p hp' => hc (j + 1) p (by simpa using hp')) (by rw [e1, splice_length _ _ _ (by omega)]; exact hl)
          (fun j d' u hd hu => by
            rw [e2 j] at hu
            rw [splice, splice_get _ _ _ _ (by omega)] at hd
            by_cases a1 : j < off
            · rw [if_pos a1] at hd hu; exact hr j d' u hd hu
            · rw [if_neg a1] at hd hu
              by_cases a2 : j < off + (cellsD d).length
              · rw [if_pos a2] at hd; rw [if_pos (by omega)] at hu; exact hcr _ d' u hd hu
              · rw [if_neg a2] at hd; rw [if_neg (by omega)] at hu; exact hr j d' u hd hu) h
        refine ⟨c', ?_, k2, by rw [k3, splice_length _ _ _ (by omega)], k4⟩
        simp only [Instr.fill, hpl]
        rw [if_neg (by simp; omega)]
        exact k1
      · simp at h
    · simp at h

theorem zcells {P : Program} {t : TypeId} {zs : List D} {z : Value} (hz : zs = z.cells.toList.map cellD) (hc : zs.all isCell = true) {A : Nat → Prop} {w : World} :
    z.cells.size = zs.length ∧ ∀ (i : Nat) d u, zs[i]? = some d → z.cells[i]? = some u → Rc A w d u := by
  subst hz
  refine ⟨by simp, fun i d u hd hu => ?_⟩
  simp only [List.getElem?_map, Array.getElem?_toList, hu, Option.map_some, Option.some.injEq] at hd
  subst hd
  refine cellD_ok ?_
  rw [List.all_eq_true] at hc
  exact hc _ (List.mem_map.2 ⟨u, by simpa using Array.mem_of_getElem? hu, rfl⟩)

def partsD (ρ : Operand → D) (parts : Array (Nat × Operand)) : List (Nat × D) := parts.toList.map fun (i, x) => (i, ρ x)

/-- A struct or array literal. -/
def semBuild' (P : Program) (t : TypeId) (parts : List (Nat × D)) (M : Mem) (nx : D → Mem → Prop) : Prop :=
  parts.all (fun p => (cellsD p.2).all isCell) = true ∧
  match zc P t with
  | some zs => zs.all isCell = true ∧ match P.underlying t with
    | some (.struct fs) => match fs.toList.mapM (fun f => (szT P f.type).map fun n => (f.offset, n)) with
      | some places => match fillD (fun i => places[i]?) zs parts with
        | some cs => nx (.agg cs) M
        | none => False
      | none => False
    | some (.array _ e) => match szT P e with
      | some n => match fillD (fun i => some (i * n, n)) zs parts with
        | some cs => nx (.agg cs) M
        | none => False
      | none => False
    | _ => False
  | none => False

theorem run_mapM_places {P : Program} {w : World} : ∀ (fs : List Field) (places : List (Nat × Nat)), fs.mapM (fun f => (szT P f.type).map fun n => (f.offset, n)) = some places →
    (fs.mapM (fun f => do pure (f.offset, ← sizeOf f.type) : Field → Sem (Nat × Nat))).run P w = .ok places w
  | [], places, h => by simp at h; subst h; simp
  | f :: fs, places, h => by
    simp only [List.mapM_cons, Option.bind_eq_bind, Option.pure_def] at h
    cases hs : szT P f.type with
    | none => simp [hs] at h
    | some n =>
      simp only [hs, Option.map_some, Option.bind_some] at h
      cases hr : fs.mapM (fun f => (szT P f.type).map fun n => (f.offset, n)) with
      | none => simp [hr] at h
      | some l =>
        simp [hr] at h; subst h
        have ih := run_mapM_places (w := w) fs l hr
        simp only [List.mapM_cons, Sem.run_bind, run_sizeOf' hs, Result.andThen_ok, Sem.run_pure, ih]

theorem build_ok {P : Program} {F : Fr} {g M w nx} (hM : MemOk F g M w) {t : TypeId} {parts : List (Nat × D)} {vals : Array (Nat × Value)}
    (hl : vals.toList.length = parts.length) (hp : ∀ (i : Nat) p v, parts[i]? = some p → vals.toList[i]? = some v → p.1 = v.1 ∧ Tv g (Ok F g M w) w p.2 v.2) (h : semBuild' P t parts M nx) :
    ∃ v w', (Instr.build t vals).run P w = .ok v w' ∧ SR F g M w nx v w' := by
  obtain ⟨hcell, h⟩ := h
  have hc : ∀ (i : Nat) p, parts[i]? = some p → (cellsD p.2).all isCell = true := fun i p hi => by
    rw [List.all_eq_true] at hcell; exact hcell p (List.mem_of_getElem? hi)
  split at h
  · rename_i zs hz
    obtain ⟨hzc, h⟩ := h
    obtain ⟨i, z, hi, hz', hzs⟩ := zc_spec hz
    obtain ⟨z1, z2⟩ := zcells (P := P) (t := t) (A := Ok F g M w) (w := w) hzs hzc
    split at h
    · rename_i fs hu
      split at h
      · rename_i places hpl
        split at h
        · rename_i cs hf
          obtain ⟨c', k1, k2, k3, k4⟩ := fill_ok parts vals.toList zs cs z.cells hl hp hc z1 (fun i d u a b => .c _ _ (z2 i d u a b)) hf
          refine ⟨.agg c', w, ?_, SR.plain hM h (.agg _ _ k2 k4)⟩
          have hm := run_mapM_places (w := w) fs.toList places hpl
          have hm' : (fs.mapM (fun f => do pure (f.offset, ← sizeOf f.type) : Field → Sem (Nat × Nat))).run P w = .ok places.toArray w := by
            rw [Array.mapM_eq_mapM_toList, Sem.run_map, hm]; rfl
          simp only [Instr.build, Sem.run_bind, run_zeroValue hi hz', Result.andThen_ok, run_underlying hu, hm']
          have : (fun x : Nat => places.toArray[x]?) = fun x => places[x]? := by funext x; simp
          rw [this, k1]; rfl
        · exact h.elim
      · exact h.elim
    · rename_i n e hu
      split at h
      · rename_i k hk
        split at h
        · rename_i cs hf
          obtain ⟨c', k1, k2, k3, k4⟩ := fill_ok parts vals.toList zs cs z.cells hl hp hc z1 (fun i d u a b => .c _ _ (z2 i d u a b)) hf
          refine ⟨.agg c', w, ?_, SR.plain hM h (.agg _ _ k2 k4)⟩
          simp only [Instr.build, Sem.run_bind, run_zeroValue hi hz', Result.andThen_ok, run_underlying hu, run_sizeOf' hk, k1]; rfl
        · exact h.elim
      · exact h.elim
    · exact h.elim
  · exact h.elim

/-! ## New rows -/
/-- A new row with known cells. -/
theorem new_row {F : Fr} {g M w} (hM : MemOk F g M w) {fid : Nat} (hf : M fid = none) (c : Array Value) (T : TypeId) (sz n : Nat) (es : List (List D)) (hn : n ≤ c.size) (hle : es.length * sz ≤ n) (hsz : ∀ e, e ∈ es → e.length = sz)
    (hr : ∀ (i j : Nat) e d u, es[i]? = some e → e[j]? = some d → c[i * sz + j]? = some u → Rc (Ok F g M w) w d u) (cap : Nat) (hcap : es.length ≤ cap) (hcs : cap * sz ≤ n)
    (nx : D → Mem → Prop) (hx : nx (.row fid) (upd M fid (some (.row sz es true)))) :
    SR F g M w nx (.slice (some ⟨w.heap.size, 0, none⟩) es.length cap) { w with heap := w.heap.push (.cells c T (0, 0)) } := by
  obtain ⟨h1, h2⟩ := hM.alloc hf (.cells c T (0, 0)) (.row sz es true) ⟨w.heap.size, n, sz, es.length, true⟩ rfl
    (fun hL => ⟨rfl, rfl, hsz, hle, fun h => by simp at h, fun _ => ⟨fun h => by simp at h, c, T, by simp, hn, fun i j e d u a b k => (hr i j e d u a b k).mono hL.A⟩⟩)
  refine ⟨_, _, _, hx, h1, h2, .c _ _ ?_⟩
  exact .row fid ⟨w.heap.size, n, sz, es.length, true⟩ _ cap (by simp) hcap hcs (.inr rfl)

/-- make([]T, n). -/
def semMakeSlice (P : Program) (t : TypeId) (l c : D) (M : Mem) (fid : Nat) (nx : D → Mem → Prop) : Prop :=
  match l, c with
  | .v (.int _ n), .v (.int _ m) => n = m ∧ match elT P t with
    | some e => match szT P e, byT P e, zc P e with
      | some sz, some by', some zs => zs.length = sz ∧ zs.all isCell = true ∧ 0 ≤ n ∧ n ≤ 9223372036854775807 ∧ by' * n ≤ 281474976710656 ∧ M fid = none ∧
        nx (.row fid) (upd M fid (some (.row sz (List.replicate n.toNat zs) true)))
      | _, _, _ => False
    | none => False
  | _, _ => False

theorem rng0 : Array.range 0 = #[] := rfl

theorem zeroRow {z : Array Value} {n : Nat} {i j : Nat} (hi : i < n) (hj : j < z.size) : ((Array.range (n * z.size)).map fun k => z[k % z.size]!)[i * z.size + j]? = z[j]? := by
  have hlt : i * z.size + j < n * z.size := by
    have : (i + 1) * z.size ≤ n * z.size := Nat.mul_le_mul_right _ hi
    rw [Nat.succ_mul] at this; omega
  have hm : (i * z.size + j) % z.size = j := by rw [Nat.mul_comm, Nat.mul_add_mod]; exact Nat.mod_eq_of_lt hj
  simp [hlt, hm, hj]

theorem makeSlice_ok {P : Program} {F : Fr} {g M w nx} (hM : MemOk F g M w) {t : TypeId} {l c : D} {u v : Value} {fid : Nat} (hl : Tv g (Ok F g M w) w l u) (hc : Tv g (Ok F g M w) w c v)
    (h : semMakeSlice P t l c M fid nx) : ∃ v' w', (Instr.makeSlice t u v).run P w = .ok v' w' ∧ SR F g M w nx v' w' := by
  unfold semMakeSlice at h
  split at h
  · rename_i k n k' m
    obtain ⟨rfl, h⟩ := h
    split at h
    · rename_i e he
      split at h
      · rename_i sz by' zs hs hb hz
        obtain ⟨rfl, hzc, h0, h63, hby, hf, hn⟩ := h
        obtain ⟨i, z, hi, hz', hzs⟩ := zc_spec hz
        obtain ⟨z1, z2⟩ := zcells (P := P) (t := e) (A := Ok F g M w) (w := w) hzs hzc
        cases hl.cell rfl with
        | c _ _ hr => cases hr with
          | v => cases hc.cell rfl with
            | c _ _ hr => cases hr with
              | v =>
                have hib : i.bytes = by' := by simpa [byT, hi] using hb
                have hw : IntKind.i64.wrap n = n := IntWalk.i64_in n (by omega)
                refine ⟨.slice (some ⟨w.heap.size, 0, none⟩) n.toNat n.toNat, { w with heap := w.heap.push (.cells ((Array.range (n.toNat * zs.length)).map fun k => z.cells[k % z.cells.size]!) e (0, 0)) }, ?_, ?_⟩
                · have g1 : ¬ (n < 0) := by omega
                  have g2 : ¬ (281474976710656 < (i.bytes : Int) * n) := by rw [hib]; omega
                  have g3 : (decide (n < 0) || decide ((i.bytes : Int) * n > 2 ^ 48) || decide (n < 0) || decide (n > n)) = false := by simp [g1]; omega
                  simp only [Instr.makeSlice, Sem.run_bind, run_underlying (elT_spec he), Result.andThen_ok, asInt, asIntOf, Sem.run_pure, typeInfo, run_program, hi, hw, run_askRoom, g3, Bool.false_eq_true, if_false, run_sizeOf' hs]
                  split
                  · rename_i hz0; simp [hz0, newRow, rng0]
                  · simp [run_zeroValue hi hz', newRow]
                · have hlen : (List.replicate n.toNat zs).length = n.toNat := by simp
                  have := new_row hM hf ((Array.range (n.toNat * zs.length)).map fun k => z.cells[k % z.cells.size]!) e zs.length (n.toNat * zs.length) (List.replicate n.toNat zs)
                    (by simp) (by simp) (fun e he => by rw [List.mem_replicate] at he; rw [he.2]) (fun a j e' d u' ha hd hu => ?_) n.toNat (by simp) (Nat.le_refl _) nx hn
                  · rw [hlen] at this; exact this
                  · rw [List.getElem?_replicate] at ha
                    split at ha
                    · rename_i han
                      cases ha
                      have hj : j < z.cells.size := by
                        rcases Nat.lt_or_ge j zs.length with h | h
                        · omega
                        · simp [List.getElem?_eq_none h] at hd
                      rw [← z1, zeroRow han hj] at hu
                      exact z2 j d u' hd hu
                    · simp at ha
      · exact h.elim
    · exact h.elim
  · exact h.elim

/-- A slice literal. -/
def bsD (M : Mem) (sz : Nat) (es : List (List D)) : List (Nat × D) → Option (List (List D))
  | [] => some es
  | (i, d) :: l => match mapO (fz M false 1) (cellsD d) with
    | some ds => if ds.length = sz ∧ i < es.length then bsD M sz (es.set i ds) l else none
    | none => none

def semBuildSlice (P : Program) (np : Nat) (t : TypeId) (len : Nat) (parts : List (Nat × D)) (M : Mem) (fid : Nat) (nx : D → Mem → Prop) : Prop :=
  parts.all (fun p => (cellsD p.2).all isCell) = true ∧
  match elT P t with
  | some e => match szT P e, zc P e with
    | some sz, some zs => zs.length = sz ∧ zs.all isCell = true ∧ 0 < sz ∧ len * sz ≤ 16777216 ∧ M fid = none ∧
      match bsD (frzA np M (parts.map (·.2))) sz (List.replicate len zs) parts with
      | some es => nx (.row fid) (upd (frzA np M (parts.map (·.2))) fid (some (.row sz es true)))
      | none => False
    | _, _ => False
  | none => False

theorem frz1_none {np : Nat} {M : Mem} {i fid : Nat} (h : M fid = none) : frz1 np M i fid = none := by
  cases hm : M i with
  | none => simp [frz1, hm, h]
  | some e =>
    have hne : fid ≠ i := fun he => by subst he; rw [h] at hm; cases hm
    cases e with
    | row sz es ex =>
      cases ex
      · simp [frz1, hm, h]
      · simp only [frz1, hm]
        split
        · simp [upd, hne, h]
        · exact h
    | _ => simp [frz1, hm, h]
theorem frz0_none {np : Nat} {M : Mem} {fid : Nat} (d : D) (h : M fid = none) : frz0 np M d fid = none := by
  cases d <;> first | exact frz1_none h | exact h
theorem frzL_none {np fid : Nat} : ∀ (l : List D) {M : Mem}, M fid = none → frzL np M l fid = none
  | [], _, h => h
  | d :: l, _, h => frzL_none l (frz0_none d h)
theorem frz_none {np : Nat} {M : Mem} {fid : Nat} (d : D) (h : M fid = none) : frz np M d fid = none := by
  cases d with
  | agg cs => exact frzL_none cs h
  | box id off =>
    cases hm : M id with
    | none => simp [frz, hm, h]
    | some e => cases e <;> simp only [frz, hm] <;> first | exact frzL_none _ h | exact h
  | row id => exact frz0_none (.row id) h
  | vw id o n => exact frz0_none (.vw id o n) h
  | elt id i o => exact frz0_none (.elt id i o) h
  | _ => exact h
theorem frzA_none {np fid : Nat} : ∀ (l : List D) {M : Mem}, M fid = none → frzA np M l fid = none
  | [], _, h => h
  | d :: l, _, h => frzA_none l (frz_none d h)

theorem fillRow_ok {F : Fr} {g M w} (hM : MemOk F g M w) {sz : Nat} : ∀ (parts : List (Nat × D)) (vals : List (Nat × Value)) (es es' : List (List D)) (c : Array Value),
    vals.length = parts.length → (∀ (i : Nat) p v, parts[i]? = some p → vals[i]? = some v → p.1 = v.1 ∧ Tv g (Ok F g M w) w p.2 v.2) → (∀ (i : Nat) p, parts[i]? = some p → (cellsD p.2).all isCell = true) →
    c.size = es.length * sz → (∀ e, e ∈ es → e.length = sz) → (∀ (i j : Nat) e d u, es[i]? = some e → e[j]? = some d → c[i * sz + j]? = some u → Rc (Ok F g M w) w d u) → bsD M sz es parts = some es' →
    ∃ c', Instr.fill (fun i => some (i * sz, sz)) c vals = some c' ∧ c'.size = c.size ∧ es'.length = es.length ∧ (∀ e, e ∈ es' → e.length = sz) ∧
      ∀ (i j : Nat) e d u, es'[i]? = some e → e[j]? = some d → c'[i * sz + j]? = some u → Rc (Ok F g M w) w d u
  | [], [], es, es', c, _, _, _, hl, hs, hr, h => by
    simp only [bsD, Option.some.injEq] at h; subst h
    exact ⟨c, rfl, rfl, rfl, hs, hr⟩
  | [], _ :: _, _, _, _, hn, _, _, _, _, _, _ => by simp at hn
  | _ :: _, [], _, _, _, hn, _, _, _, _, _, _ => by simp at hn
  | (i, d) :: parts, (i', v) :: vals, es, es', c, hn, hp, hc, hl, hs, hr, h => by
    obtain ⟨rfl, hv⟩ := hp 0 (i, d) (i', v) rfl rfl
    simp only at hv
    simp only [bsD] at h
    split at h
    · rename_i ds hds
      split at h
      · rename_i hcond
        obtain ⟨h1, h2⟩ := hcond
        obtain ⟨hsz, hcr⟩ := hv.cells (hc 0 (i, d) rfl)
        have hdl := mapO_length hds
        have hrow : i * sz + sz ≤ es.length * sz := by rw [← Nat.succ_mul]; exact Nat.mul_le_mul_right _ h2
        obtain ⟨e1, e2⟩ := foldl_splice (i * sz) v.cells c (by omega)
        obtain ⟨c', k1, k2, k3, k4, k5⟩ := fillRow_ok hM parts vals (es.set i ds) es' _ (by simpa using hn)
          (fun j p q hp' hq' => hp (j + 1) p q (by simpa using hp') (by simpa using hq')) (fun j p hp' => hc (j + 1) p (by simpa using hp')) (by rw [e1]; simpa using hl)
          (fun e he => by
            rcases List.mem_or_eq_of_mem_set he with he | he
            · exact hs e he
            · rw [he, h1])
          (fun a j e d' u he hd hu => by
            rw [e2] at hu
            by_cases hai : a = i
            · subst hai
              rw [List.getElem?_set_self h2] at he; cases he
              have hj : j < sz := by
                rcases Nat.lt_or_ge j ds.length with h | h
                · omega
                · simp [List.getElem?_eq_none h] at hd
              rw [if_neg (by omega), if_pos (by omega), show a * sz + j - a * sz = j from by omega] at hu
              obtain ⟨x, hx1, hx2⟩ := mapO_get hds hd
              have ht := hcr j x u hx1 hu
              exact fz_ok hM (fun _ h => h) (fun h => by simp at h) 1 ht.isCell ht hx2
            · rw [List.getElem?_set_ne (fun h => hai h.symm)] at he
              have hj : j < sz := by
                have := hs e (List.mem_of_getElem? he)
                rcases Nat.lt_or_ge j e.length with h | h
                · omega
                · simp [List.getElem?_eq_none h] at hd
              refine hr a j e d' u he hd ?_
              rcases Nat.lt_or_gt_of_ne hai with hlt | hgt
              · have : a * sz + sz ≤ i * sz := by rw [← Nat.succ_mul]; exact Nat.mul_le_mul_right _ hlt
                rw [if_pos (by omega)] at hu; exact hu
              · have : i * sz + sz ≤ a * sz := by rw [← Nat.succ_mul]; exact Nat.mul_le_mul_right _ hgt
                rw [if_neg (by omega), if_neg (by omega)] at hu; exact hu) h
        refine ⟨c', ?_, by rw [k2, e1], by simpa using k3, k4, k5⟩
        simp only [Instr.fill]
        rw [if_neg (by simp; omega)]
        exact k1
      · simp at h
    · simp at h

theorem buildSlice_ok {P : Program} {F : Fr} {g M w nx} (hM : MemOk F g M w) {t : TypeId} {len fid : Nat} {parts : List (Nat × D)} {vals : Array (Nat × Value)}
    (hl : vals.toList.length = parts.length) (hp : ∀ (i : Nat) p v, parts[i]? = some p → vals.toList[i]? = some v → p.1 = v.1 ∧ Tv g (Ok F g M w) w p.2 v.2) (h : semBuildSlice P F.np t len parts M fid nx) :
    ∃ v w', (Instr.buildSlice t len vals).run P w = .ok v w' ∧ SR F g M w nx v w' := by
  obtain ⟨hcell, h⟩ := h
  have hc : ∀ (i : Nat) p, parts[i]? = some p → (cellsD p.2).all isCell = true := fun i p hi => by
    rw [List.all_eq_true] at hcell; exact hcell p (List.mem_of_getElem? hi)
  split at h
  · rename_i e he
    split at h
    · rename_i sz zs hs hz
      obtain ⟨rfl, hzc, h0, h24, hf, h⟩ := h
      obtain ⟨i, z, hi, hz', hzs⟩ := zc_spec hz
      obtain ⟨f1, f2⟩ := frzA_ok (parts.map (·.2)) hM
      have hf' := frzA_none (np := F.np) (parts.map (·.2)) hf
      obtain ⟨z1, z2⟩ := zcells (P := P) (t := e) (A := Ok F g (frzA F.np M (parts.map (·.2))) w) (w := w) hzs hzc
      split at h
      · rename_i es hes
        obtain ⟨c', k1, k2, k3, k4, k5⟩ := fillRow_ok f1 parts vals.toList (List.replicate len zs) es
          ((Array.range (len * zs.length)).map fun k => z.cells[k % z.cells.size]!)
          hl (fun i p v a b => ⟨(hp i p v a b).1, (hp i p v a b).2.mono f2⟩) hc (by simp) (fun e he => by rw [List.mem_replicate] at he; rw [he.2])
          (fun a j e' d u' ha hd hu => by
            rw [List.getElem?_replicate] at ha
            split at ha
            · rename_i han
              cases ha
              have hj : j < z.cells.size := by
                rcases Nat.lt_or_ge j zs.length with h | h
                · omega
                · simp [List.getElem?_eq_none h] at hd
              rw [← z1, zeroRow han hj] at hu
              exact z2 j d u' hd hu
            · simp at ha) hes
        have hlen : es.length = len := by simpa using k3
        have hn24 : ¬ (16777216 < len * zs.length) := by omega
        refine ⟨.slice (some ⟨w.heap.size, 0, none⟩) len len, { w with heap := w.heap.push (.cells c' e (0, 0)) }, ?_, ?_⟩
        · simp only [Instr.buildSlice, Sem.run_bind, run_underlying (elT_spec he), Result.andThen_ok, run_sizeOf' hs]
          rw [if_neg (by simpa using hn24)]
          split
          · rename_i hz0
            simp only [hz0, rng0, Array.map_empty, Sem.run_bind, Sem.run_pure, Result.andThen_ok] at k1 ⊢
            simp only [k1, Sem.run_bind, newRow, run_newObj, Sem.run_pure, Result.andThen_ok]
          · simp only [Sem.run_bind, run_zeroValue hi hz', Result.andThen_ok, Sem.run_pure, k1, newRow, run_newObj]
        · have := new_row f1 hf' c' e zs.length (len * zs.length) es (by rw [k2]; simp) (by rw [hlen]; exact Nat.le_refl _) k4 k5 len (by omega) (Nat.le_refl _) nx h
          rw [hlen] at this
          exact SR.then f1 f2 this
      · exact h.elim
    · exact h.elim
  · exact h.elim

/-! ## Sub-slices -/
def boundD (d : Option D) (dflt : Int) : Option Int :=
  match d with
  | none => some dflt
  | some (.v (.int _ n)) => some n
  | _ => none

def lenD (M : Mem) : D → Option Nat
  | .vw _ _ n => some n
  | x => (rowsOf M x).map (·.2.length)

def semSlice (P : Program) (t : TypeId) (x : D) (lo hi : Option D) (M : Mem) (nx : D → Mem → Prop) : Prop :=
  match x with
  | .v (.string s) => (match P.underlying t with | some .string => True | _ => False) ∧ match boundD lo 0, boundD hi s.size with
    | some l, some h => (0 ≤ l ∧ l ≤ h ∧ h ≤ s.size) ∧ nx (.v (.string (s.extract l.toNat h.toNat))) M
    | _, _ => False
  | x => (match elT P t with | some e => (szT P e).isSome = true | none => False) ∧ match lenD M x with
    | some n => match boundD lo 0, boundD hi n with
      | some l, some h => (0 ≤ l ∧ l ≤ h ∧ h ≤ n) ∧ match x with
        | .nils => nx .nils M
        | .sl sz es => (match elT P t with | some e => szT P e = some sz | none => False) ∧ nx (.sl sz ((es.drop l.toNat).take (h.toNat - l.toNat))) M
        | .row id => (match elT P t, M id with | some e, some (.row sz _ _) => szT P e = some sz | _, _ => False) ∧ nx (.vw id l.toNat (h.toNat - l.toNat)) M
        | .vw id off k => (match elT P t, M id with | some e, some (.row sz _ _) => szT P e = some sz | _, _ => False) ∧ nx (.vw id (off + l.toNat) (h.toNat - l.toNat)) M
        | _ => False
      | _, _ => False
    | none => False

theorem bound_ok {g A w} {d : Option D} {v : Option Value} {n dflt : Int} (hv : match d, v with | none, none => True | some d, some v => Tv g A w d v | _, _ => False) (h : boundD d dflt = some n) :
    (v = none ∧ n = dflt) ∨ ∃ k, v = some (.int k n) := by
  unfold boundD at h
  split at h
  · cases v with
    | none => simp at h; exact .inl ⟨rfl, h.symm⟩
    | some v => exact hv.elim
  · simp at h; subst h
    cases v with
    | none => exact hv.elim
    | some v =>
      right
      cases (show Tv g A w _ v from hv).cell rfl with
      | c _ _ hr => cases hr with
        | v => exact ⟨_, rfl⟩
  · simp at h

theorem run_sliceBounds {P : Program} {w : World} {isS : Bool} {len cap : Nat} {lo hi : Option Value} {l h : Int}
    (hl : (lo = none ∧ l = 0) ∨ ∃ k, lo = some (.int k l)) (hh : (hi = none ∧ h = len) ∨ ∃ k, hi = some (.int k h)) (h0 : 0 ≤ l) (h1 : l ≤ h) (h2 : h ≤ len) (h3 : len ≤ cap) :
    (Instr.sliceBounds isS len cap lo hi none).run P w = .ok (l.toNat, h.toNat, cap) w := by
  have c1 : 0 ≤ h ∧ h ≤ cap := ⟨by omega, by omega⟩
  have c2 : 0 ≤ l ∧ l ≤ (h.toNat : Int) := ⟨h0, by omega⟩
  rcases hl with ⟨rfl, rfl⟩ | ⟨k, rfl⟩ <;> rcases hh with ⟨rfl, rfl⟩ | ⟨k', rfl⟩
  · simp [Instr.sliceBounds]
  · simp [Instr.sliceBounds, Instr.sliceBound, asIntOf, c1]
  · have c3 : l ≤ (len : Int) := by omega
    simp [Instr.sliceBounds, Instr.sliceBound, asIntOf, h0, c3]
  · have c3 : l ≤ max h 0 := by omega
    simp [Instr.sliceBounds, Instr.sliceBound, asIntOf, c1, h0, c3]

theorem slice_ok {P : Program} {F : Fr} {g M w nx} (hM : MemOk F g M w) {t : TypeId} {x : D} {u : Value} {lo hi : Option D} {lov hiv : Option Value} (hx : Tv g (Ok F g M w) w x u)
    (hlo : match lo, lov with | none, none => True | some d, some v => Tv g (Ok F g M w) w d v | _, _ => False)
    (hhi : match hi, hiv with | none, none => True | some d, some v => Tv g (Ok F g M w) w d v | _, _ => False)
    (h : semSlice P t x lo hi M nx) : ∃ v' w', (Instr.sliceAt t u lov hiv none).run P w = .ok v' w' ∧ SR F g M w nx v' w' := by
  unfold semSlice at h
  split at h
  · rename_i s
    obtain ⟨ht, h⟩ := h
    have ht' : P.underlying t = some .string := by split at ht <;> simp_all
    split at h
    · rename_i l hh hl' hh'
      obtain ⟨⟨h0, h1, h2⟩, hn⟩ := h
      cases hx.cell rfl with
      | c _ _ hr => cases hr with
        | v =>
          have hb := run_sliceBounds (P := P) (w := w) (isS := false) (len := s.size) (cap := s.size) (lo := lov) (hi := hiv)
            (bound_ok hlo hl') (bound_ok hhi hh') h0 h1 h2 (Nat.le_refl _)
          refine ⟨_, _, ?_, SR.plain hM hn (.c _ _ (.c _ _ (.v _ rfl)))⟩
          simp [Instr.sliceAt, Instr.slice, run_underlying ht', hb]
    · exact h.elim
  · obtain ⟨hsz, h⟩ := h
    split at hsz
    · rename_i e he
      obtain ⟨size, hs⟩ := Option.isSome_iff_exists.1 hsz
      split at h
      · rename_i n hln
        split at h
        · rename_i l hh hl' hh'
          obtain ⟨⟨h0, h1, h2⟩, h⟩ := h
          have hrun : ∀ (a : Option Addr) (c : Nat), n ≤ c → (Instr.sliceAt t (.slice a n c) lov hiv none).run P w = .ok (.slice (if c = l.toNat then a else a.map (·.add (l.toNat * size))) (hh.toNat - l.toNat) (c - l.toNat)) w := by
            intro a c hc
            have hb := run_sliceBounds (P := P) (w := w) (isS := true) (len := n) (cap := c) (lo := lov) (hi := hiv)
              (bound_ok hlo hl') (bound_ok hhi hh') h0 h1 h2 hc
            simp [Instr.sliceAt, Instr.slice, run_underlying (elT_spec he), hb, run_sizeOf' hs]
          split at h
          · simp [lenD, rowsOf] at hln; subst hln
            have : l = 0 := by omega
            subst this
            have : hh = 0 := by omega
            subst this
            cases hx.cell rfl with
            | c _ _ hr => cases hr with
              | nils => exact ⟨_, _, hrun none 0 (Nat.le_refl _), SR.plain hM h (by simpa using .c _ _ (.c _ _ .nils))⟩
          · rename_i sz es _
            obtain ⟨hsz', hn⟩ := h
            simp only [he] at hsz'
            rw [hs] at hsz'; cases hsz'
            simp [lenD, rowsOf] at hln; subst hln
            cases hx.cell rfl with
            | c _ _ hr => cases hr with
              | sl _ _ a c X h3 h4 h5 h6 =>
                refine ⟨_, _, hrun a c h3, SR.plain hM hn (.c _ _ (.c _ _ ?_))⟩
                have hlen : ((es.drop l.toNat).take (hh.toNat - l.toNat)).length = hh.toNat - l.toNat := by simp; omega
                have key := Rc.sl (A := Ok F g M w) (w := w) size ((es.drop l.toNat).take (hh.toNat - l.toNat)) (if c = l.toNat then a else a.map (·.add (l.toNat * size))) (c - l.toNat) (fun i j => X (l.toNat + i) j) (by omega)
                  (fun e he => h4 e (List.mem_of_mem_drop (List.mem_of_mem_take he))) (fun hne => ?_) (fun i j e d he hd => ?_)
                · rw [hlen] at key; exact key
                · have hpos : l.toNat < hh.toNat := by
                    rcases Nat.lt_or_ge l.toNat hh.toNat with h | h
                    · exact h
                    · exact absurd (by rw [← List.length_eq_zero_iff, hlen]; omega) hne
                  have hes : es ≠ [] := fun h => by subst h; simp at h2; omega
                  obtain ⟨b, o, rfl, hb, hc⟩ := h5 hes
                  refine ⟨b, o + l.toNat * size, ?_, hb, fun i j hi hj => ?_⟩
                  · rw [if_neg (by omega)]; simp [addp]
                  · rw [hlen] at hi
                    have := hc (l.toNat + i) j (by omega) hj
                    rw [Nat.add_mul, ← Nat.add_assoc] at this; exact this
                · rw [List.getElem?_take] at he
                  split at he
                  · rw [List.getElem?_drop] at he; exact h6 _ j e d he hd
                  · simp at he
          · rename_i id _
            obtain ⟨hsz', hn⟩ := h
            cases hx.cell rfl with
            | c _ _ hr => cases hr
            | row _ gi a c hg hlc hcc ha =>
              split at hsz'
              · rename_i e' sz es ex he' hm
                rw [he] at he'; cases he'
                rw [hs] at hsz'; cases hsz'
                obtain ⟨gi', hg', hE⟩ := hM.ent id _ hm
                rw [hg] at hg'; cases hg'
                simp [lenD, rowsOf, hm] at hln; subst hln
                rw [hE.2.1] at hlc ⊢
                refine ⟨_, _, hrun a c hlc, SR.plain hM hn (.c _ _ ?_)⟩
                refine .vw id l.toNat (hh.toNat - l.toNat) gi _ _ hg (by rw [hE.2.1]; omega) (by omega) ?_
                by_cases hz : hh.toNat - l.toNat = 0
                · exact .inl hz
                · right
                  rw [if_neg (by omega), ha.resolve_left (by omega)]
                  simp [addp, hE.1]
              · exact hsz'.elim
          · rename_i id off k _
            obtain ⟨hsz', hn⟩ := h
            cases hx.cell rfl with
            | c _ _ hr => cases hr
            | vw _ _ _ gi a c hg ho hkc ha =>
              split at hsz'
              · rename_i e' sz es ex he' hm
                rw [he] at he'; cases he'
                rw [hs] at hsz'; cases hsz'
                obtain ⟨gi', hg', hE⟩ := hM.ent id _ hm
                rw [hg] at hg'; cases hg'
                simp [lenD] at hln; subst hln
                refine ⟨_, _, hrun a c hkc, SR.plain hM hn (.c _ _ ?_)⟩
                refine .vw id (off + l.toNat) (hh.toNat - l.toNat) gi _ _ hg (by omega) (by omega) ?_
                by_cases hz : hh.toNat - l.toNat = 0
                · exact .inl hz
                · right
                  rw [if_neg (by omega), ha.resolve_left (by omega)]
                  simp [addp, hE.1, Nat.add_mul]
              · exact hsz'.elim
          · exact h.elim
        · exact h.elim
      · exact h.elim
    · exact hsz.elim

end Go.Abs
