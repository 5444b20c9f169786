/- The abstract machine: sorts, paid from the shelf. -/
import Derived.Test.YtjhhmkkndgocfaaCR1H
import Derived.Shelf.SlSortCmp.NoneTotal
set_option linter.unusedVariables false
set_option linter.unusedSimpArgs false
namespace Go.Abs
open Go Go.Sort Go.Shelf Go.Proofs

theorem flatK_one {α : Type} [Inhabited α] {X : α → List Value} (hk : ∀ i, (X i).length = 1) (σ : Array α) : flatK X 1 σ = σ.map fun i => (X i).headD undef := by
  apply Array.ext
  · simp
  · intro i h1 h2
    have hi : i < σ.size := by simpa using h1
    have := get_flatK X 1 σ i (by omega)
    rw [getElem!_pos (flatK X 1 σ) i h1] at this
    rw [this]
    simp only [Nat.div_one, Nat.mod_one, Array.getElem_map]
    rw [getElem!_pos σ i hi]
    have := hk σ[i]
    match hx : X σ[i], this with
    | [x], _ => rfl

theorem putCells_map {α : Type} [Inhabited α] (enc : α → Value) (off : Nat) (d : Array α) : putCells enc off d = putCells id off (d.map enc) := by
  funext c
  unfold putCells
  apply Array.ext
  · simp
  · intro i h1 h2
    simp only [Array.getElem_mapIdx, Array.size_map, id]
    split
    · rename_i h
      have hlt : i - off < d.size := by omega
      rw [getElem!_pos d (i - off) hlt, getElem!_pos (d.map enc) (i - off) (by simpa using hlt)]
      simp
    · rfl

theorem perm_of {n : Nat} {σ : Array (Fin (n + 1))} (h : PermIn 0 (Array.ofFn (n := n + 1) id).size (Array.ofFn id) σ) : σ.toList.Perm (List.finRange (n + 1)) := by
  obtain ⟨h1, _, h3⟩ := h
  have hs : σ.size = n + 1 := by simpa using h1
  have e1 : σ.extract 0 (Array.ofFn (n := n + 1) id).size = σ := by simp [← hs]
  have e2 : ((Array.ofFn (n := n + 1) (id : Fin (n + 1) → Fin (n + 1))).extract 0 (Array.ofFn (n := n + 1) (id : Fin (n + 1) → Fin (n + 1))).size).toList = List.finRange (n + 1) := by
    simp only [Array.size_ofFn, Array.extract_eq_self_of_le, Nat.le_refl, Array.toList_ofFn]
    rfl
  rw [e1, e2] at h3
  exact h3

theorem sortOk_struct {P : Program} {ρ : Ren} (L : SlLaysF0.n6 P ρ) (hfn : ∃ fn, P.funcs[ρ.f 6]? = some fn ∧ fn.body.isNone = false ∧ (fn.name == "runtime.NumGoroutine") = false) (k : Nat) (aE : ∀ w, (isAgg (ρ.t 24)).run P w = .ok true w) (zE : ∀ w, (Go.sizeOf (ρ.t 24)).run P w = .ok k w) : SortOk P (ρ.f 6) k true := by
  refine ⟨hfn, fun p cap fv w => AnyF.slices_SortFunc_none L p cap fv w, ?_⟩
  intro n X hX h1 cf hO g cb blk cap w eg hc hH hblk hsz
  have hs : (Array.ofFn (n := n + 1) (id : Fin (n + 1) → Fin (n + 1))).size = n + 1 := by simp
  have := AnyQ.slices_SortFunc L k aE zE X hX h1 cf hO g cb blk 0 cap (Array.ofFn id) w eg (fun m os σ hσ i j => by
    have := hc m os σ (by rw [hσ]; simp) i j
    exact this) hH hblk (by rw [hs]; exact hsz)
  rw [hs] at this
  refine this.mono ?_
  rintro e w' ⟨he, σ, m, os, hp, hsd, hw⟩
  exact ⟨he, σ, m, os, perm_of (by rw [hs]; exact hp), fun i j h1 h2 => hsd i j (Nat.zero_le _) h1 h2, hw⟩

theorem sortOk_cell {P : Program} {ρ : Ren} (L : SlLaysF.n6 P ρ) (hfn : ∃ fn, P.funcs[ρ.f 6]? = some fn ∧ fn.body.isNone = false ∧ (fn.name == "runtime.NumGoroutine") = false) : SortOk P (ρ.f 6) 1 false := by
  refine ⟨hfn, fun p cap fv w => AnyF.slices_SortFunc_none (P := P) (ρ := ρ) { L with } p cap fv w, ?_⟩
  intro n X hX h1 cf hO g cb blk cap w eg hc hH hblk hsz
  have hs : (Array.ofFn (n := n + 1) (id : Fin (n + 1) → Fin (n + 1))).size = n + 1 := by simp
  have hone : OneCell fun i => (X i).headD undef := by
    intro i
    have := hX i
    match hx : X i, this with
    | [x], _ => show ((X i).headD undef).oneCell' = true
                rw [hx]; exact h1 i x (by rw [hx]; simp)
  have hw : ∀ (m : Nat) (os : Array Obj) (σ : Array (Fin (n + 1))), sortWorld (fun i => (X i).headD undef) w blk 0 m σ os = swW w blk (flatK X 1 σ) m os := by
    intro m os σ
    unfold sortWorld swW putRow
    rw [flatK_one hX, putCells_map]
  have := Any.slices_SortFunc L (fun i => (X i).headD undef) hone cf hO g cb blk 0 cap (Array.ofFn id) w eg (fun m os σ hσ i j => by
    have := hc m os σ (by rw [hσ]; simp) i j
    rw [hw]
    exact this) (fun j hj => by
      have := hH j (by simpa using hj)
      rw [flatK_one hX] at this
      have hj' : j < n + 1 := by simpa using hj
      rw [getElem!_pos ((Array.ofFn (id : Fin (n + 1) → Fin (n + 1))).map fun i => (X i).headD undef) j (by simpa using hj')] at this
      rw [getElem!_pos (Array.ofFn id) j hj]
      simpa using this) hblk (by rw [hs]; exact hsz)
  rw [hs] at this
  refine this.mono ?_
  rintro e w' ⟨he, σ, m, os, hp, hsd, hw'⟩
  exact ⟨he, σ, m, os, perm_of (by rw [hs]; exact hp), fun i j h1 h2 => hsd i j (Nat.zero_le _) h1 h2, by rw [hw', hw]⟩

end Go.Abs
