/- The abstract machine, fifth part: by value; freezing; stores. -/
import Derived.Test.YtgihcmeifafnjaaCAbsD
set_option linter.unusedVariables false
set_option linter.unusedSimpArgs false
namespace Go.Abs
open Go

/-- A row, read by value. -/
theorem MemOk.rowSl {F : Fr} {g M w} (hM : MemOk F g M w) {id sz : Nat} {es : List (List D)} {ex : Bool} (hm : M id = some (.row sz es ex)) {gi : GI} (hg : g id = some gi)
    {A : Nat → Prop} (hA : ∀ b, Ok F g M w b → A b) (hx : ex = true → ∀ b, b < w.heap.size → A b)
    {off n c : Nat} {a : Option Addr} (hon : off + n ≤ es.length) (hn : n ≤ c) (ha : n = 0 ∨ a = some ⟨gi.blk, off * sz, none⟩) :
    Rc A w (.sl sz ((es.drop off).take n)) (.slice a n c) := by
  obtain ⟨gi', hg', hE⟩ := hM.ent id _ hm
  rw [hg] at hg'; cases hg'
  obtain ⟨h0, h1, h2, h3, hz, hB⟩ := hE
  have hlen : ((es.drop off).take n).length = n := by simp; omega
  have hX : ∀ i, ∃ f : Nat → Value, ∀ j, i < n → j < sz → w.cell? ⟨gi.blk, off * sz + i * sz + j, none⟩ = some (f j) ∧ ∀ e d, es[off + i]? = some e → e[j]? = some d → Rc A w d (f j) := by
    intro i
    apply Classical.axiomOfChoice (r := fun j v => i < n → j < sz → w.cell? ⟨gi.blk, off * sz + i * sz + j, none⟩ = some v ∧ ∀ e d, es[off + i]? = some e → e[j]? = some d → Rc A w d v)
    intro j
    by_cases hij : i < n ∧ j < sz
    · obtain ⟨hi, hj⟩ := hij
      have he : es[off + i]? = some es[off + i] := List.getElem?_eq_getElem (by omega)
      have hl := h2 _ (List.getElem_mem (l := es) (n := off + i) (by omega))
      have hd : es[off + i][j]? = some es[off + i][j] := List.getElem?_eq_getElem (by omega)
      obtain ⟨_, u, hu, hr⟩ := hM.rowCell hm hg he j _ hd
      refine ⟨u, fun _ _ => ⟨by rw [← Nat.add_mul]; exact hu, fun e d h1 h2 => ?_⟩⟩
      rw [he] at h1; cases h1; rw [hd] at h2; cases h2
      exact hr.mono fun b hb => ⟨hA b hb, rfl⟩
    · exact ⟨undef, fun a b => absurd ⟨a, b⟩ hij⟩
  obtain ⟨X, hX⟩ := Classical.axiomOfChoice hX
  have key := Rc.sl (A := A) (w := w) sz ((es.drop off).take n) a c X (by omega) (fun e he => h2 e (List.mem_of_mem_drop (List.mem_of_mem_take he))) (fun hne => ?_) (fun i j e d he hd => ?_)
  · rw [hlen] at key; exact key
  · have hn0 : n ≠ 0 := fun h => hne (by simp [h])
    refine ⟨gi.blk, off * sz, ha.resolve_left hn0, ?_, fun i j hi hj => ?_⟩
    · have hlv : gi.live = true := by
        cases hl : gi.live with
        | true => rfl
        | false => have := (hz hl).1; subst this; simp at hon; omega
      cases ex with
      | true => exact hx rfl _ (hM.lo id _ gi hm rfl hg hlv).1
      | false => exact hA _ ((hB hlv).1 rfl)
    · rw [hlen] at hi
      exact (hX i j hi hj).1
  · rw [List.getElem?_take] at he
    split at he
    · rename_i hi
      rw [List.getElem?_drop] at he
      have hj : j < sz := by
        have := h2 e (List.mem_of_getElem? he)
        rcases Nat.lt_or_ge j e.length with h | h
        · omega
        · simp [List.getElem?_eq_none h] at hd
      exact (hX i j hi hj).2 e d he hd
    · simp at he

theorem Rc.of_true {A : Nat → Prop} {w : World} {d : D} {u : Value} {A' : Nat → Prop} (h : Rc A w d u) (hA : ∀ b, A b → A' b) : Rc A' w d u := h.mono fun b hb => ⟨hA b hb, rfl⟩

theorem fz0_ok {F : Fr} {g M w} (hM : MemOk F g M w) {b : Bool} {A : Nat → Prop} (hA : ∀ b, Ok F g M w b → A b) (hx : b = true → ∀ b, b < w.heap.size → A b)
    {d d' : D} {u : Value} (hv : Tc g (Ok F g M w) w d u) (h : fz0 M b d = some d') : Rc A w d' u := by
  have hrow : ∀ {id sz : Nat} {es : List (List D)} {ex : Bool} {x : D}, M id = some (.row sz es ex) → (if (ex && !b) = true then none else some x) = some d' → d' = x ∧ (ex = true → ∀ b, b < w.heap.size → A b) := by
    intro id sz es ex x hm hh
    cases ex <;> cases b <;> simp at hh hx ⊢
    · exact hh.symm
    · exact hh.symm
    · exact ⟨hh.symm, hx⟩
  cases hv with
  | c _ _ hr =>
    cases hr with
    | v x hf => simp [fz0] at h; subst h; exact .v _ hf
    | nils => simp [fz0] at h; subst h; exact .nils
    | sl sz es a c X h1 h2 h3 h4 => simp [fz0] at h; subst h; exact Rc.of_true (.sl sz es a c X h1 h2 h3 h4) hA
    | rp sz es i off b' o X h1 h2 h3 h4 h5 => simp [fz0] at h; subst h; exact Rc.of_true (.rp sz es i off b' o X h1 h2 h3 h4 h5) hA
    | fn => simp [fz0] at h
  | row id gi a c hg hn hc ha =>
    simp only [fz0] at h
    split at h
    · rename_i sz es ex hm
      obtain ⟨rfl, hx'⟩ := hrow hm h
      obtain ⟨gi', hg', hE⟩ := hM.ent id _ hm
      rw [hg] at hg'; cases hg'
      have := hM.rowSl hm hg hA hx' (off := 0) (n := gi.len) (c := c) (a := a) (by rw [hE.2.1]; omega) hn (by
        rcases ha with ha | ha
        · left; omega
        · right; simpa using ha)
      rw [hE.2.1] at this ⊢
      simpa using this
    · simp at h
  | vw id off n gi a c hg ho hn ha =>
    simp only [fz0] at h
    split at h
    · rename_i sz es ex hm
      obtain ⟨rfl, hx'⟩ := hrow hm h
      obtain ⟨gi', hg', hE⟩ := hM.ent id _ hm
      rw [hg] at hg'; cases hg'
      exact hM.rowSl hm hg hA hx' (by rw [← hE.2.1]; exact ho) hn (by rw [← hE.1]; exact ha)
    · simp at h
  | elt id i off gi hg hi =>
    simp only [fz0] at h
    split at h
    · rename_i sz es ex hm
      obtain ⟨rfl, hx'⟩ := hrow hm h
      obtain ⟨gi', hg', hE⟩ := hM.ent id _ hm
      rw [hg] at hg'; cases hg'
      have hne : es ≠ [] := fun h => by have := hE.2.1; rw [h] at this; simp at this; omega
      have := hM.rowSl hm hg hA hx' (off := 0) (n := es.length) (c := es.length) (a := some ⟨gi.blk, 0, none⟩) (by omega) (Nat.le_refl _) (.inr (by simp))
      simp only [List.drop_zero, List.take_length] at this
      cases this with
      | sl _ _ _ _ X h1 h2 h3 h4 =>
        obtain ⟨bb, o, hb, hAb, hc⟩ := h3 hne
        cases hb
        rw [hE.1]
        have k := Rc.rp (A := A) (w := w) sz es i off gi.blk 0 X h2 (by rw [← hE.2.1]; exact hi) hAb hc h4
        simpa using k
    · simp at h
  | box => simp [fz0] at h
  | mp => simp [fz0] at h
  | it => simp [fz0] at h
  | fn => simp [fz0] at h

theorem mapO_length {α β : Type} {f : α → Option β} : ∀ {l : List α} {l' : List β}, mapO f l = some l' → l'.length = l.length
  | [], l', h => by simp [mapO] at h; subst h; rfl
  | x :: l, l', h => by
    simp only [mapO] at h
    split at h
    · rename_i y r h1 h2; cases h; simp [mapO_length h2]
    · simp at h
theorem mapO_get {α β : Type} {f : α → Option β} : ∀ {l : List α} {l' : List β}, mapO f l = some l' → ∀ {i : Nat} {y : β}, l'[i]? = some y → ∃ x, l[i]? = some x ∧ f x = some y
  | [], l', h, i, y, hi => by simp [mapO] at h; subst h; simp at hi
  | x :: l, l', h, i, y, hi => by
    simp only [mapO] at h
    split at h
    · rename_i y' r h1 h2
      cases h
      cases i with
      | zero => simp at hi; subst hi; exact ⟨x, by simp, h1⟩
      | succ i => simp at hi; obtain ⟨z, hz, hf⟩ := mapO_get h2 hi; exact ⟨z, by simpa using hz, hf⟩
    · simp at h

/-- By value, boxes and functions too. -/
theorem fz_ok {F : Fr} {g M w} (hM : MemOk F g M w) {b : Bool} {A : Nat → Prop} (hA : ∀ b, Ok F g M w b → A b) (hx : b = true → ∀ b, b < w.heap.size → A b) :
    ∀ (n : Nat) {d d' : D} {u : Value}, isCell d = true → Tc g (Ok F g M w) w d u → fz M b n d = some d' → Rc A w d' u
  | 0, d, d', u, _, hv, h => fz0_ok hM hA hx hv (by simpa [fz] using h)
  | n + 1, d, d', u, hcl, hv, h => by
    have hcell : ∀ {cs cs' : List D} {us : Array Value}, us.size = cs.length → (∀ (i : Nat) d u, cs[i]? = some d → us[i]? = some u → Tc g (Ok F g M w) w d u) → mapO (fz M b n) cs = some cs' →
        us.size = cs'.length ∧ ∀ (i : Nat) d u, cs'[i]? = some d → us[i]? = some u → Rc A w d u := by
      intro cs cs' us hl hr hm
      refine ⟨by rw [hl, mapO_length hm], fun i d u hd hu => ?_⟩
      obtain ⟨x, hx1, hx2⟩ := mapO_get hm hd
      have ht := hr i x u hx1 hu
      exact fz_ok hM hA hx n ht.isCell ht hx2
    cases d with
    | fn f x y =>
      simp only [fz] at h
      split at h
      · rename_i x' y' h1 h2
        cases h
        cases hv with
        | c _ _ hr =>
          cases hr with
          | fn _ _ _ us vs hl hs hf hr =>
            obtain ⟨a1, a2⟩ := hcell hl (fun i d u p q => .c _ _ (hf i d u p q)) h1
            obtain ⟨b1, b2⟩ := hcell hs (fun i d u p q => .c _ _ (hr i d u p q)) h2
            exact .fn f x' y' us vs a1 b1 a2 b2
        | fn _ _ _ us vs hl hs hf hr =>
          obtain ⟨a1, a2⟩ := hcell hl hf h1
          obtain ⟨b1, b2⟩ := hcell hs hr h2
          exact .fn f x' y' us vs a1 b1 a2 b2
      · simp at h
    | box id off =>
      simp only [fz] at h
      split at h
      · rename_i cs hm
        split at h
        · rename_i hb
          split at h
          · rename_i cs' h1
            cases h
            cases hv with
            | c _ _ hr => cases hr
            | box _ _ gi hg =>
              obtain ⟨gi', hg', hlv, c, T, h4, h5, h6⟩ := hM.ent id _ hm
              rw [hg] at hg'; cases hg'
              obtain ⟨a1, a2⟩ := hcell h5 h6 h1
              have hl := mapO_length h1
              have key := Rc.rp (A := A) (w := w) cs.length [cs'] 0 off gi.blk 0 (fun i j => c.getD j undef) (by simp [hl]) (by simp) (hx hb _ (hM.lo id _ gi hm rfl hg hlv).1)
                (fun i j hi hj => by
                  have hi0 : i = 0 := by simpa using hi
                  subst hi0
                  rw [cell_of_row w _ _ c T (0, 0) h4]
                  simp [Array.getD, h5, hj])
                (fun i j e d he hd => by
                  cases i with
                  | succ i => simp at he
                  | zero =>
                    simp at he; subst he
                    have hj : j < c.size := by
                      rcases Nat.lt_or_ge j cs'.length with h | h
                      · omega
                      · simp [List.getElem?_eq_none h] at hd
                    exact a2 j d _ hd (by simp [Array.getD, hj]))
              simpa using key
          · simp at h
        · simp at h
      · simp at h
    | agg cs => simp [isCell] at hcl
    | _ => exact fz0_ok hM hA hx hv (by simpa [fz] using h)

/-! Freezing. -/
theorem frz1_ok {F : Fr} {g M w} (hM : MemOk F g M w) (id : Nat) : MemOk F g (frz1 F.np M id) w ∧ Le g (Ok F g M w) w g (Ok F g (frz1 F.np M id) w) w := by
  unfold frz1
  split
  · rename_i sz es hm
    split
    · rename_i hn; exact hM.freeze hm hn
    · exact ⟨hM, Le.refl _ _ _⟩
  · exact ⟨hM, Le.refl _ _ _⟩
theorem frz0_ok {F : Fr} {g M w} (hM : MemOk F g M w) (d : D) : MemOk F g (frz0 F.np M d) w ∧ Le g (Ok F g M w) w g (Ok F g (frz0 F.np M d) w) w := by
  cases d <;> first | exact frz1_ok hM _ | exact ⟨hM, Le.refl _ _ _⟩
theorem frzL_ok {F : Fr} {g w} : ∀ (l : List D) {M}, MemOk F g M w → MemOk F g (frzL F.np M l) w ∧ Le g (Ok F g M w) w g (Ok F g (frzL F.np M l) w) w
  | [], M, hM => ⟨hM, Le.refl _ _ _⟩
  | d :: l, M, hM => by
    obtain ⟨h1, h2⟩ := frz0_ok hM d
    obtain ⟨h3, h4⟩ := frzL_ok l h1
    exact ⟨h3, h2.trans h4⟩
theorem frz_ok {F : Fr} {g M w} (hM : MemOk F g M w) (d : D) : MemOk F g (frz F.np M d) w ∧ Le g (Ok F g M w) w g (Ok F g (frz F.np M d) w) w := by
  cases d with
  | agg cs => exact frzL_ok cs hM
  | box id off =>
    simp only [frz]
    split
    · exact frzL_ok _ hM
    · exact ⟨hM, Le.refl _ _ _⟩
  | row id => exact frz0_ok hM (.row id)
  | vw id o n => exact frz0_ok hM (.vw id o n)
  | elt id i o => exact frz0_ok hM (.elt id i o)
  | _ => exact ⟨hM, Le.refl _ _ _⟩
theorem frzA_ok {F : Fr} {g w} : ∀ (l : List D) {M}, MemOk F g M w → MemOk F g (frzA F.np M l) w ∧ Le g (Ok F g M w) w g (Ok F g (frzA F.np M l) w) w
  | [], M, hM => ⟨hM, Le.refl _ _ _⟩
  | d :: l, M, hM => by
    obtain ⟨h1, h2⟩ := frz_ok hM d
    obtain ⟨h3, h4⟩ := frzA_ok l h1
    exact ⟨h3, h2.trans h4⟩

/-! Stores. -/
theorem splice_get {α : Type} (l r : List α) (off i : Nat) (h : off + r.length ≤ l.length) :
    (l.take off ++ r ++ l.drop (off + r.length))[i]? = if i < off then l[i]? else if i < off + r.length then r[i - off]? else l[i]? := by
  have h1 : (l.take off).length = off := by simp; omega
  by_cases hi : i < off
  · rw [if_pos hi, List.append_assoc, List.getElem?_append_left (by omega), List.getElem?_take, if_pos hi]
  · rw [if_neg hi]
    by_cases hj : i < off + r.length
    · rw [if_pos hj, List.append_assoc, List.getElem?_append_right (by omega), h1, List.getElem?_append_left (by omega)]
    · rw [if_neg hj, List.getElem?_append_right (by simp; omega), List.getElem?_drop]
      congr 1; simp; omega

theorem splice_length (l r : List D) (off : Nat) (h : off + r.length ≤ l.length) : (splice l off r).length = l.length := by
  simp [splice]; omega

theorem run_storeVar' {P : Program} {t : TypeId} {v : Value} (hs : szT P t = some v.cells.size) (h1 : ∀ x ∈ v.cells.toList, x.oneCell' = true) {w : World} {b o : Nat} {c : Array Value} {T : TypeId}
    (hb : w.heap[b]? = some (.cells c T (0, 0))) (hl : o + v.cells.size ≤ c.size) :
    (storeVar t ⟨b, o, none⟩ v).run P w = .ok () (w.setRow b (c.toList.take o ++ v.cells.toList ++ c.toList.drop (o + v.cells.toList.length)).toArray) := by
  have := run_storeCells_at P b o T v.cells.toList 0 c w hb (by simpa using hl) h1
  simp only [Nat.add_zero] at this
  simp [storeVar, run_sizeOf' hs]
  simpa using this

theorem store_ok {P : Program} {F : Fr} {g M w nx} (hM : MemOk F g M w) {t : TypeId} {p d : D} {u v : Value} (hp : Tv g (Ok F g M w) w p u) (hv : Tv g (Ok F g M w) w d v)
    (h : semStore P F.np t p d M nx) : ∃ w', (Instr.storeAt t u v).run P w = .ok () w' ∧ SR F g M w nx undef w' := by
  obtain ⟨hsz, hall, h⟩ := h
  obtain ⟨hcs, hcr⟩ := hv.cells hall
  have h1 : ∀ x ∈ v.cells.toList, x.oneCell' = true := by
    intro x hx
    obtain ⟨i, hi⟩ := List.getElem?_of_mem hx
    have hi' : v.cells[i]? = some x := by simpa using hi
    have hlt : i < (cellsD d).length := by
      rw [← hcs]
      rcases Nat.lt_or_ge i v.cells.size with h | h
      · exact h
      · simp [Array.getElem?_eq_none h] at hi'
    exact (hcr i _ x (List.getElem?_eq_getElem hlt) hi').one
  rw [← hcs] at hsz
  split at h
  · rename_i id off
    split at h
    · rename_i cs hm
      obtain ⟨hle, hnx⟩ := h
      cases hp.cell rfl with
      | c _ _ h => cases h
      | box _ _ gi hg =>
        obtain ⟨gi', hg', hlv, c, T, h4, h5, h6⟩ := hM.ent id _ hm
        rw [hg] at hg'; cases hg'
        have hrun := run_storeVar' hsz h1 h4 (o := off) (by omega)
        refine ⟨_, (by simp only [Instr.storeAt, Instr.sureAddr, pure_bind]; exact hrun), ?_⟩
        obtain ⟨k1, k2⟩ := hM.modify (e' := .cells (splice cs off (cellsD d))) hm rfl hg hlv (w' := w.setRow gi.blk (c.toList.take off ++ v.cells.toList ++ c.toList.drop (off + v.cells.toList.length)).toArray)
          (fun b hb => setRow_other w _ _ _ hb) (by simp) rfl rfl rfl rfl (fun hL => by
            refine ⟨hlv, _, T, setRow_heap w _ c _ T (0, 0) h4, ?_, fun i d' u' hd hu => ?_⟩
            · rw [splice_length _ _ _ hle]; simp; omega
            · simp only [List.getElem?_toArray] at hu
              rw [splice_get _ _ _ _ (by simp; omega)] at hu
              rw [splice, splice_get _ _ _ _ hle] at hd
              have e1 : v.cells.toList.length = (cellsD d).length := by simpa using hcs
              rw [e1] at hu
              split at hd
              · rename_i hi; rw [if_pos hi] at hu; exact (h6 i d' u' hd (by simpa using hu)).mono hL
              · rename_i hi; rw [if_neg hi] at hu
                split at hd
                · rename_i hj; rw [if_pos hj] at hu; exact (hcr _ d' u' hd (by simpa using hu)).mono hL
                · rename_i hj; rw [if_neg hj] at hu; exact (h6 i d' u' hd (by simpa using hu)).mono hL)
        exact ⟨_, _, _, hnx, k1, k2, .junk _⟩
    · exact h.elim
  · rename_i id i off
    obtain ⟨f1, f2⟩ := frz_ok hM d
    generalize frz F.np M d = M' at h f1 f2
    simp only at h
    split at h
    · rename_i sz es ds hm hds
      have hp' := hp.mono f2
      have hv' := hv.mono f2
      cases hp'.cell rfl with
      | c _ _ h => cases h
      | elt _ _ _ gi hg hi =>
        obtain ⟨gi', hg', hE⟩ := f1.ent id _ hm
        rw [hg] at hg'; cases hg'
        have hE' := hE
        obtain ⟨h0, hn, h2, h3, hz, hA⟩ := hE
        subst h0
        have h0 : gi.sz = gi.sz := rfl
        have hlt : i < es.length := by omega
        have hlv : gi.live = true := by
          cases hl : gi.live with
          | true => rfl
          | false => have := (hz hl).1; subst this; simp at hlt
        obtain ⟨_, c, T, h4, h5, h6⟩ := hA hlv
        rw [List.getElem?_eq_getElem hlt] at h
        obtain ⟨hoff, hnx⟩ := h
        have hdl := mapO_length hds
        have hrow : i * gi.sz + gi.sz ≤ es.length * gi.sz := by rw [← Nat.succ_mul]; exact Nat.mul_le_mul_right _ hlt
        have hel := h2 _ (List.getElem_mem hlt)
        have hrun := run_storeVar' hsz h1 h4 (o := i * gi.sz + off) (by omega)
        refine ⟨_, (by simp only [Instr.storeAt, Instr.sureAddr, pure_bind]; exact hrun), ?_⟩
        obtain ⟨hcs', hcr'⟩ := hv'.cells hall
        obtain ⟨k1, k2⟩ := f1.modify (e' := .row gi.sz (es.set i (splice es[i] off ds)) true) hm rfl hg hlv
          (w' := w.setRow gi.blk (c.toList.take (i * gi.sz + off) ++ v.cells.toList ++ c.toList.drop (i * gi.sz + off + v.cells.toList.length)).toArray)
          (fun b hb => setRow_other w _ _ _ hb) (by simp) rfl rfl rfl rfl (fun hL => by
            refine ⟨h0, by simpa using hn, fun e he => ?_, by simpa using h3, fun hl => by simp [hlv] at hl, fun _ => ⟨fun hh => by simp at hh, _, T, setRow_heap w _ c _ T (0, 0) h4, ?_, fun a j e d' u' he hd hu => ?_⟩⟩
            · rcases List.mem_or_eq_of_mem_set he with he | he
              · exact h2 e he
              · rw [he, splice_length _ _ _ (by omega)]; exact hel
            · have e1 : v.cells.toList.length = ds.length := by simp; omega
              simp only [List.size_toArray, List.length_append, List.length_take, List.length_drop, e1, Array.length_toList]
              omega
            · simp only [List.getElem?_toArray] at hu
              have e1 : v.cells.toList.length = ds.length := by simp; omega
              rw [splice_get _ _ _ _ (by simp; omega), e1] at hu
              by_cases hai : a = i
              · subst hai
                rw [List.getElem?_set_self hlt] at he
                cases he
                rw [splice, splice_get _ _ _ _ (by omega)] at hd
                by_cases hj1 : j < off
                · rw [if_pos hj1] at hd; rw [if_pos (by omega)] at hu
                  exact (h6 a j _ d' u' (List.getElem?_eq_getElem hlt) hd (by simpa using hu)).mono hL.A
                · rw [if_neg hj1] at hd; rw [if_neg (by omega)] at hu
                  by_cases hj2 : j < off + ds.length
                  · rw [if_pos hj2] at hd; rw [if_pos (by omega)] at hu
                    obtain ⟨x, hx1, hx2⟩ := mapO_get hds hd
                    rw [show a * gi.sz + j - (a * gi.sz + off) = j - off from by omega] at hu
                    have ht := hcr' _ x u' hx1 (by simpa using hu)
                    exact (fz_ok f1 (fun _ h => h) (fun h => by simp at h) 1 ht.isCell ht hx2).mono hL.A
                  · rw [if_neg hj2] at hd; rw [if_neg (by omega)] at hu
                    exact (h6 a j _ d' u' (List.getElem?_eq_getElem hlt) hd (by simpa using hu)).mono hL.A
              · rw [List.getElem?_set_ne (fun h => hai h.symm)] at he
                have hj : j < gi.sz := by
                  have := h2 e (List.mem_of_getElem? he)
                  rcases Nat.lt_or_ge j e.length with h | h
                  · omega
                  · simp [List.getElem?_eq_none h] at hd
                have hne : ¬ (i * gi.sz + off ≤ a * gi.sz + j ∧ a * gi.sz + j < i * gi.sz + off + ds.length) := by
                  rintro ⟨q1, q2⟩
                  rcases Nat.lt_or_gt_of_ne hai with hlt' | hgt
                  · have : a * gi.sz + gi.sz ≤ i * gi.sz := by rw [← Nat.succ_mul]; exact Nat.mul_le_mul_right _ hlt'
                    omega
                  · have : i * gi.sz + gi.sz ≤ a * gi.sz := by rw [← Nat.succ_mul]; exact Nat.mul_le_mul_right _ hgt
                    omega
                have hu' : c[a * gi.sz + j]? = some u' := by
                  by_cases q1 : a * gi.sz + j < i * gi.sz + off
                  · rw [if_pos q1] at hu; simpa using hu
                  · rw [if_neg q1, if_neg (by omega)] at hu; simpa using hu
                exact (h6 a j e d' u' he hd hu').mono hL.A)
        exact ⟨_, _, _, hnx, k1, f2.trans k2, .junk _⟩
    · exact h.elim
  · exact h.elim

end Go.Abs
