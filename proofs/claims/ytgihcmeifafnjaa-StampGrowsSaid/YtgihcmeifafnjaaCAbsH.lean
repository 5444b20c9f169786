/- The abstract machine, eighth part: append. -/
import Derived.Test.YtgihcmeifafnjaaCAbsG
import Derived.Deep.Upon
import Derived.Laws.AppendOwn
set_option linter.unusedVariables false
set_option linter.unusedSimpArgs false
namespace Go.Abs
open Go

def semAppend (P : Program) (np : Nat) (t t2 : TypeId) (s x : D) (M : Mem) (fid : Nat) (nx : D → Mem → Prop) : Prop :=
  (elT P t2).isSome = true ∧
  match elT P t with
  | some e => match szT P e, byT P e, zc P e, rowsOf M x with
    | some sz, some by', some zs, some (szx, ys) => zs.length = sz ∧ 0 < sz ∧ M fid = none ∧ (ys ≠ [] → szx = sz) ∧
      match s with
      | .nils => ys.length * by' ≤ 140737488355328 ∧ ys.length ≤ 4611686018427387904 ∧ nx (.row fid) (upd M fid (some (.row sz ys true)))
      | .row id => match M id with
        | some (.row sz' xs true) => sz' = sz ∧ np ≤ id ∧ (xs.length + ys.length) * by' ≤ 140737488355328 ∧ xs.length + ys.length ≤ 4611686018427387904 ∧
          nx (.row fid) (upd (upd M id (some .dead)) fid (some (.row sz (xs ++ ys) true)))
        | _ => False
      | _ => False
    | _, _, _, _ => False
  | none => False

/-- A row of no elements, without a block. -/
theorem MemOk.addNil {F : Fr} {g M w} (h : MemOk F g M w) {f : Nat} (hf : M f = none) (sz : Nat) :
    MemOk F (upd g f (some ⟨0, 0, sz, 0, false⟩)) (upd M f (some (.row sz [] true))) w ∧
      Le g (Ok F g M w) w (upd g f (some ⟨0, 0, sz, 0, false⟩)) (Ok F (upd g f (some ⟨0, 0, sz, 0, false⟩)) (upd M f (some (.row sz [] true))) w) w := by
  have hgf := h.gnone hf
  refine h.step (fun _ => False) (fun id gi' hg => ?_) (fun id gi' hg => ?_) (fun _ _ _ => rfl) (fun _ _ h => h) (fun _ h => h.elim) (Nat.le_refl _) rfl rfl rfl (fun hL id e' hm => ?_) (fun id e' gi' hm hx hg hlv => ?_) (fun i j ei ej gi' gj hij hi hj hxi hxj hgi hgj hlvi hlvj => ?_)
  · by_cases hid : id = f
    · subst hid; simp [hgf] at hg
    · simpa [upd, hid] using hg
  · by_cases hid : id = f
    · subst hid; exact ⟨_, by simp; rfl⟩
    · simp only [upd, hid, if_false] at hg ⊢; exact h.dom id gi' hg
  · by_cases hid : id = f
    · subst hid
      simp only [upd_same, Option.some.injEq] at hm; subst hm
      exact .inr ⟨_, by simp; rfl, rfl, rfl, by simp, by simp, fun _ => ⟨rfl, rfl⟩, fun h => by simp at h⟩
    · simp only [upd, hid, if_false] at hm
      exact .inl ⟨hm, fun _ _ _ _ h => h⟩
  · by_cases hid : id = f
    · subst hid
      simp only [upd_same, Option.some.injEq] at hg; subst hg; simp at hlv
    · simp only [upd, hid, if_false] at hm hg
      exact .inl ⟨hm, hg⟩
  · by_cases hif : i = f
    · subst hif; simp only [upd_same, Option.some.injEq] at hgi; subst hgi; simp at hlvi
    · by_cases hjf : j = f
      · subst hjf; simp only [upd_same, Option.some.injEq] at hgj; subst hgj; simp at hlvj
      · simp only [upd, hif, hjf, if_false] at hi hj hgi hgj
        exact h.inj i j ei ej gi' gj hij hi hj hxi hxj hgi hgj hlvi hlvj

/-- The cells of a block, as a list. -/
def cellsAt (w : World) (b o n : Nat) : List Value := (List.range n).map fun k => (w.cell? ⟨b, o + k, none⟩).getD undef
theorem cellsAt_get {w : World} {b o n k : Nat} (h : k < n) {u : Value} (hu : w.cell? ⟨b, o + k, none⟩ = some u) : (cellsAt w b o n)[k]? = some u := by
  simp [cellsAt, h, hu]

theorem rowIdx {sz n k : Nat} (hsz : 0 < sz) (hk : k < n * sz) : k / sz < n ∧ k % sz < sz ∧ k / sz * sz + k % sz = k := by
  refine ⟨?_, Nat.mod_lt _ hsz, ?_⟩
  · rw [Nat.div_lt_iff_lt_mul hsz]; exact hk
  · rw [Nat.mul_comm]; exact Nat.div_add_mod k sz

/-- What is appended. -/
theorem src_ok {P : Program} {F : Fr} {g M w} (hM : MemOk F g M w) {t2 : TypeId} (ht : (elT P t2).isSome = true) {x : D} {u : Value} (hx : Tv g (Ok F g M w) w x u) {sz szx : Nat} {ys : List (List D)} (hsz : 0 < sz)
    (hr : rowsOf M x = some (szx, ys)) (hszx : ys ≠ [] → szx = sz) :
    ∃ news, Src P sz t2 u ys.length news w ∧ (∀ e, e ∈ ys → e.length = sz) ∧ ∀ (i j : Nat) e d v, ys[i]? = some e → e[j]? = some d → news[i * sz + j]? = some v → Rc (Ok F g M w) w d v := by
  obtain ⟨e', he'⟩ := Option.isSome_iff_exists.1 ht
  have hk := elT_spec he'
  -- a slice with an address
  have key : ∀ (a : Addr) (c : Nat), (∀ i j, i < ys.length → j < sz → ∃ v, w.cell? (a.add (i * sz + j)) = some v ∧ ∀ e d, ys[i]? = some e → e[j]? = some d → Rc (Ok F g M w) w d v) → (∀ e, e ∈ ys → e.length = sz) →
      ∃ news, Src P sz t2 (.slice (some a) ys.length c) ys.length news w ∧ (∀ e, e ∈ ys → e.length = sz) ∧ ∀ (i j : Nat) e d v, ys[i]? = some e → e[j]? = some d → news[i * sz + j]? = some v → Rc (Ok F g M w) w d v := by
    intro a c hc hl
    have hX : ∀ k, ∃ v, k < ys.length * sz → w.cell? (a.add k) = some v := by
      intro k
      by_cases hk : k < ys.length * sz
      · obtain ⟨h1, h2, h3⟩ := rowIdx hsz hk
        obtain ⟨v, hv, _⟩ := hc _ _ h1 h2
        exact ⟨v, fun _ => by rw [h3] at hv; exact hv⟩
      · exact ⟨undef, fun h => absurd h hk⟩
    obtain ⟨X, hX⟩ := Classical.axiomOfChoice hX
    refine ⟨(List.range (ys.length * sz)).map X, Src.ofSlice w hk a ys.length c _ (by simp) (fun j v hj => ?_) (fun v hv => ?_), hl, fun i j e d v he hd hv => ?_⟩
    · by_cases hlt : j < ys.length * sz
      · simp [hlt] at hj; rw [← hj]; exact hX j hlt
      · simp [hlt] at hj
    · obtain ⟨j, hj, rfl⟩ := List.mem_map.1 hv
      have hlt : j < ys.length * sz := by simpa using hj
      obtain ⟨h1, h2, h3⟩ := rowIdx hsz hlt
      obtain ⟨v, hv', hr⟩ := hc _ _ h1 h2
      rw [h3, hX j hlt] at hv'; cases hv'
      have he : ys[j / sz]? = some ys[j / sz] := List.getElem?_eq_getElem h1
      have := hl _ (List.getElem_mem h1)
      exact (hr _ _ he (List.getElem?_eq_getElem (by omega))).one
    · have hi : i < ys.length := by
        rcases Nat.lt_or_ge i ys.length with h | h
        · exact h
        · simp [List.getElem?_eq_none h] at he
      have hj : j < sz := by
        have := hl e (List.mem_of_getElem? he)
        rcases Nat.lt_or_ge j e.length with h | h
        · omega
        · simp [List.getElem?_eq_none h] at hd
      have hlt : i * sz + j < ys.length * sz := by
        have : i * sz + sz ≤ ys.length * sz := by rw [← Nat.succ_mul]; exact Nat.mul_le_mul_right _ hi
        omega
      obtain ⟨v', hv', hr⟩ := hc i j hi hj
      simp [hlt] at hv
      rw [hX _ hlt] at hv'; cases hv'
      rw [← hv]; exact hr e d he hd
  have knil : ∀ (a : Option Addr) (c : Nat), ys = [] → u = .slice a 0 c → ∃ news, Src P sz t2 u ys.length news w ∧ (∀ e, e ∈ ys → e.length = sz) ∧ ∀ (i j : Nat) e d v, ys[i]? = some e → e[j]? = some d → news[i * sz + j]? = some v → Rc (Ok F g M w) w d v := by
    intro a c hy hu
    subst hu; subst hy
    refine ⟨[], ?_, by simp, by simp⟩
    cases a with
    | none => exact Src.ofNil w hk c
    | some a => exact Src.ofSlice w hk a 0 c [] (by simp) (by simp) (by simp)
  cases hx with
  | agg => simp [rowsOf] at hr
  | tup => simp [rowsOf] at hr
  | junk => simp [rowsOf] at hr
  | c _ _ h =>
    have hrow : ∀ {id sz' : Nat} {es : List (List D)} {ex : Bool} {gi : GI}, M id = some (.row sz' es ex) → g id = some gi → ∀ (off n : Nat) (a : Option Addr) (c : Nat), off + n ≤ es.length → ys = (es.drop off).take n → szx = sz' → u = .slice a n c →
        (n = 0 ∨ a = some ⟨gi.blk, off * sz', none⟩) → ∃ news, Src P sz t2 u ys.length news w ∧ (∀ e, e ∈ ys → e.length = sz) ∧ ∀ (i j : Nat) e d v, ys[i]? = some e → e[j]? = some d → news[i * sz + j]? = some v → Rc (Ok F g M w) w d v := by
      intro id sz' es ex gi hm hg off n a c hon hys hsx hu ha
      have hlen : ys.length = n := by rw [hys]; simp; omega
      by_cases hn : n = 0
      · subst hn; exact knil a c (List.length_eq_zero_iff.1 hlen) hu
      · have hne : ys ≠ [] := fun h => by rw [h] at hlen; simp at hlen; omega
        have := hszx hne
        subst hsx; subst this
        have ha := ha.resolve_left hn
        subst ha; subst hu
        rw [← hlen]
        obtain ⟨gi', hg', hE⟩ := hM.ent id _ hm
        rw [hg] at hg'; cases hg'
        refine key _ c (fun i j hi hj => ?_) (fun e he => hE.2.2.1 e (by rw [hys] at he; exact List.mem_of_mem_drop (List.mem_of_mem_take he)))
        have he : es[off + i]? = some es[off + i] := List.getElem?_eq_getElem (by omega)
        have hl := hE.2.2.1 _ (List.getElem_mem (l := es) (n := off + i) (by omega))
        obtain ⟨_, v, hv, hrr⟩ := hM.rowCell hm hg he j _ (List.getElem?_eq_getElem (by omega))
        refine ⟨v, ?_, fun e d h1 h2 => ?_⟩
        · rw [addp, ← Nat.add_assoc, ← Nat.add_mul]; exact hv
        · rw [hys, List.getElem?_take, if_pos (by omega), List.getElem?_drop, he] at h1
          cases h1
          rw [List.getElem?_eq_getElem (by omega)] at h2; cases h2
          exact hrr
    cases h with
    | c _ _ hrc =>
      cases hrc with
      | nils => simp [rowsOf] at hr; exact knil none 0 hr.2 rfl
      | sl sz' es a c X h1 h2 h3 h4 =>
        simp [rowsOf] at hr
        obtain ⟨rfl, rfl⟩ := hr
        by_cases hne : es = []
        · exact knil a c hne (by rw [hne]; rfl)
        · have := hszx hne
          subst this
          obtain ⟨b, o, rfl, hb, hc⟩ := h3 hne
          refine key _ c (fun i j hi hj => ⟨X i j, by rw [addp, ← Nat.add_assoc]; exact hc i j hi hj, fun e d he hd => h4 i j e d he hd⟩) h2
      | _ => simp [rowsOf] at hr
    | row id gi a c hg hlc hcc ha =>
      simp only [rowsOf] at hr
      split at hr
      · rename_i sz' es ex hm
        simp at hr; obtain ⟨rfl, rfl⟩ := hr
        obtain ⟨gi', hg', hE⟩ := hM.ent id _ hm
        rw [hg] at hg'; cases hg'
        have hl := hE.2.1
        exact hrow hm hg 0 gi.len a c (by omega) (by rw [hl]; simp) rfl rfl (by
          rcases ha with ha | ha
          · left; omega
          · right; simpa using ha)
      · simp at hr
    | vw id off n gi a c hg ho hnc ha =>
      simp only [rowsOf] at hr
      split at hr
      · rename_i sz' es ex hm
        simp at hr; obtain ⟨rfl, rfl⟩ := hr
        obtain ⟨gi', hg', hE⟩ := hM.ent id _ hm
        rw [hg] at hg'; cases hg'
        exact hrow hm hg off n a c (by rw [← hE.2.1]; exact ho) rfl rfl rfl (by rw [← hE.1]; exact ha)
      · simp at hr
    | _ => simp [rowsOf] at hr

theorem setCells_eq_setRow {P : Program} {w : World} {b o : Nat} {T : TypeId} {c : Array Value} {vs : List Value} (hb : w.heap[b]? = some (.cells c T (0, 0))) (hl : o + vs.length ≤ c.size) (h1 : ∀ v ∈ vs, v.oneCell' = true) :
    w.setCells b o vs = w.setRow b (c.toList.take o ++ vs ++ c.toList.drop (o + vs.length)).toArray := by
  have e1 := run_storeCells_at P b o T vs 0 c w hb (by simpa using hl) h1
  have e2 := run_storeCells_cells (P := P) b o vs 0 w (fun j hj => by rw [cell_of_row w _ _ c T (0, 0) hb]; simp; omega) (fun j hj => by simp [World.frozen?, hb]) h1
  rw [e1] at e2
  simp only [Nat.add_zero, Result.ok.injEq, true_and] at e2
  exact e2.symm

theorem cells_append {sz : Nat} {xs ys : List (List D)} {olds news : List Value} {c : Array Value} {A : Nat → Prop} {w : World} (hxl : ∀ e, e ∈ xs → e.length = sz) (hyl : ∀ e, e ∈ ys → e.length = sz) (hnl : news.length = ys.length * sz)
    (h1 : ∀ (i j : Nat) e d u, xs[i]? = some e → e[j]? = some d → c[i * sz + j]? = some u → Rc A w d u)
    (h2 : ∀ k, k < ys.length * sz → c[xs.length * sz + k]? = news[k]?) (h3 : ∀ (i j : Nat) e d u, ys[i]? = some e → e[j]? = some d → news[i * sz + j]? = some u → Rc A w d u) :
    ∀ (i j : Nat) e d u, (xs ++ ys)[i]? = some e → e[j]? = some d → c[i * sz + j]? = some u → Rc A w d u := by
  intro i j e d u he hd hu
  by_cases hi : i < xs.length
  · rw [List.getElem?_append_left hi] at he
    exact h1 i j e d u he hd hu
  · rw [List.getElem?_append_right (by omega)] at he
    have hiy : i - xs.length < ys.length := by
      rcases Nat.lt_or_ge (i - xs.length) ys.length with h | h
      · exact h
      · simp [List.getElem?_eq_none h] at he
    have hj : j < sz := by
      have := hyl e (List.mem_of_getElem? he)
      rcases Nat.lt_or_ge j e.length with h | h
      · omega
      · simp [List.getElem?_eq_none h] at hd
    have hlt : (i - xs.length) * sz + j < ys.length * sz := by
      have : (i - xs.length) * sz + sz ≤ ys.length * sz := by rw [← Nat.succ_mul]; exact Nat.mul_le_mul_right _ hiy
      omega
    have hix : i * sz + j = xs.length * sz + ((i - xs.length) * sz + j) := by
      rw [← Nat.add_assoc, ← Nat.add_mul]; congr 2; omega
    rw [hix, h2 _ hlt] at hu
    exact h3 _ j e d u he hd hu

theorem append_ok {P : Program} {F : Fr} {g M w nx} (hM : MemOk F g M w) {t t2 ty : TypeId} {s x : D} {u v : Value} {fid : Nat} (hs : Tv g (Ok F g M w) w s u) (hx : Tv g (Ok F g M w) w x v)
    (h : semAppend P F.np t t2 s x M fid nx) : ∃ v' w', (Builtin.append_ #[t, t2] ty #[u, v]).run P w = .ok v' w' ∧ SR F g M w nx v' w' := by
  obtain ⟨ht2, h⟩ := h
  split at h
  · rename_i e he
    split at h
    · rename_i sz by' zs szx ys hsz hby hz hrows
      obtain ⟨hzl, hpos, hf, hszx, h⟩ := h
      obtain ⟨i, z, hi, hz', hzs⟩ := zc_spec hz
      have hisz : i.size = sz := by simpa [szT, hi] using hsz
      have hiby : i.bytes = by' := by simpa [byT, hi] using hby
      have hzsz : z.cells.size = sz := by rw [← hzl, hzs]; simp
      obtain ⟨news, hsrc, hyl, hnews⟩ := src_ok hM ht2 hx hpos hrows hszx
      have hnl := hsrc.newsLen
      subst hisz
      -- the arm that grows: a new block
      have grow : ∀ {g1 M1} (xs : List (List D)) (olds : List Value) (a : Option Addr) (c : Nat) (id? : Nat), MemOk F g1 M1 w → Le g (Ok F g M w) w g1 (Ok F g1 M1 w) w → M1 fid = none → (∀ e, e ∈ xs → e.length = i.size) → olds.length = xs.length * i.size →
          (∀ (i' j : Nat) e d u, xs[i']? = some e → e[j]? = some d → olds[i' * i.size + j]? = some u → Rc (Ok F g1 M1 w) w d u) →
          (Builtin.firstCells i.size xs.length (.slice a xs.length c)).run P w.drew = .ok olds.toArray w.drew → c < xs.length + ys.length → (xs.length + ys.length) * by' ≤ 140737488355328 → xs.length + ys.length ≤ 4611686018427387904 →
          nx (.row fid) (upd M1 fid (some (.row i.size (xs ++ ys) true))) →
          ∃ v' w', (Builtin.append_ #[t, t2] ty #[.slice a xs.length c, v]).run P w = .ok v' w' ∧ SR F g M w nx v' w' := by
        intro g1 M1 xs olds a c _ h1 hL hf1 hxl hol hor hold hlt hb h62 hn
        have hg := run_append_grow_src (P := P) w t t2 ty e i z (elT_spec he) hi hz' a xs.length c olds hold v ys.length news hsrc hlt (by omega) (growslice_fits hlt (by rw [hiby]; exact hb))
        refine ⟨_, _, hg, ?_⟩
        have hge := grownCap_ge w (xs.length + ys.length) c e
        obtain ⟨d1, d2⟩ := h1.same (w' := w.drew) rfl rfl rfl rfl
        have hzc : (Builtin.zeroCells z.cells (grownCap w (xs.length + ys.length) c e - (xs.length + ys.length))).size = (grownCap w (xs.length + ys.length) c e - (xs.length + ys.length)) * i.size := by simp [Builtin.zeroCells, hzsz]
        have hlen : (xs ++ ys).length = xs.length + ys.length := by simp
        have hsize : ((olds ++ news).toArray ++ Builtin.zeroCells z.cells (grownCap w (xs.length + ys.length) c e - (xs.length + ys.length))).size = grownCap w (xs.length + ys.length) c e * i.size := by
          rw [Array.size_append, hzc]
          simp only [List.size_toArray, List.length_append, hol, hnl]
          rw [← Nat.add_mul, ← Nat.add_mul]; congr 1; omega
        have := new_row d1 hf1 ((olds ++ news).toArray ++ Builtin.zeroCells z.cells (grownCap w (xs.length + ys.length) c e - (xs.length + ys.length))) e i.size (grownCap w (xs.length + ys.length) c e * i.size) (xs ++ ys)
          (by rw [hsize]; exact Nat.le_refl _) (by rw [hlen]; exact Nat.mul_le_mul_right _ hge)
          (fun e he => by rcases List.mem_append.1 he with h | h; exact hxl e h; exact hyl e h)
          (fun i' j ee d u he hd hu => by
            refine Rc.mono (cells_append (A := Ok F g1 M1 w) (w := w) (olds := olds) (c := (olds ++ news).toArray ++ Builtin.zeroCells z.cells (grownCap w (xs.length + ys.length) c e - (xs.length + ys.length))) hxl hyl hnl (fun i' j e d u he hd hu => ?_) (fun k hk => ?_) (fun i' j e d u he hd hu => (hnews i' j e d u he hd hu).mono hL.A) i' j ee d u he hd hu) d2.A
            · have hi' : i' < xs.length := by
                rcases Nat.lt_or_ge i' xs.length with h | h
                · exact h
                · simp [List.getElem?_eq_none h] at he
              have hj : j < i.size := by
                have := hxl e (List.mem_of_getElem? he)
                rcases Nat.lt_or_ge j e.length with h | h
                · omega
                · simp [List.getElem?_eq_none h] at hd
              have hlt' : i' * i.size + j < xs.length * i.size := by
                have : i' * i.size + i.size ≤ xs.length * i.size := by rw [← Nat.succ_mul]; exact Nat.mul_le_mul_right _ hi'
                omega
              rw [Array.getElem?_append_left (by simp; omega)] at hu
              simp only [List.getElem?_toArray] at hu
              rw [List.getElem?_append_left (by omega)] at hu
              exact hor i' j e d u he hd hu
            · rw [Array.getElem?_append_left (by simp; omega)]
              simp only [List.getElem?_toArray]
              rw [List.getElem?_append_right (by omega)]
              congr 1; omega)
          (grownCap w (xs.length + ys.length) c e) (by rw [hlen]; exact hge) (Nat.le_refl _) nx hn
        rw [hlen] at this
        exact SR.then d1 (hL.trans d2) this
      split at h
      · -- nil
        obtain ⟨hb, h62, hn⟩ := h
        cases hs.cell rfl with
        | c _ _ hr => cases hr with
          | nils =>
            by_cases hy : ys = []
            · subst hy
              have hne : news = [] := by simpa using hnl
              subst hne
              refine ⟨_, _, run_append_nothing w t t2 ty e i (elT_spec he) hi none 0 0 (Nat.le_refl _) v (by simpa using hsrc), ?_⟩
              obtain ⟨k1, k2⟩ := hM.addNil hf i.size
              exact ⟨_, _, _, hn, k1, k2, .c _ _ (.row fid ⟨0, 0, i.size, 0, false⟩ none 0 (by simp) (by simp) (by simp) (.inl rfl))⟩
            · have hpos' : 0 < ys.length := List.length_pos_iff.2 hy
              exact grow [] [] none 0 0 hM (Le.refl _ _ _) hf (by simp) (by simp) (by simp) (run_firstCells_none w.drew i.size 0 0 0) (by simpa using hpos') (by simpa using hb) (by simpa using h62) (by simpa using hn)
      · rename_i id
        split at h
        · rename_i sz' xs hm
          obtain ⟨rfl, hnp, hb, h62, hn⟩ := h
          cases hs.cell rfl with
          | c _ _ hr => cases hr
          | row _ gi a c hg hlc hcc ha =>
            obtain ⟨gi', hg', hE⟩ := hM.ent id _ hm
            rw [hg] at hg'; cases hg'
            obtain ⟨h0, hl, h2, h3, hzz, hA⟩ := hE
            obtain ⟨kM, kL⟩ := hM.kill hm
            have hfid : fid ≠ id := fun hh => by subst hh; simp [hf] at hm
            have hf' : upd M id (some Ent.dead) fid = none := by simp [upd, hfid, hf]
            rw [hl] at hlc ⊢
            by_cases hroom : xs.length + ys.length ≤ c
            · by_cases hy : ys = []
              · subst hy
                have hne : news = [] := by simpa using hnl
                subst hne
                refine ⟨_, _, run_append_nothing w t t2 ty e i (elT_spec he) hi a xs.length c hlc v (by simpa using hsrc), ?_⟩
                simp only [List.append_nil] at hn
                cases hlv : gi.live with
                | false =>
                  obtain ⟨hx0, hc0⟩ := hzz hlv
                  subst hx0
                  obtain ⟨k1, k2⟩ := kM.addNil hf' i.size
                  have hc00 : c = 0 := by
                    rcases Nat.eq_zero_or_pos c with h | h
                    · exact h
                    · have : 0 < c * gi.sz := Nat.mul_pos h (by omega)
                      omega
                  subst hc00
                  exact ⟨_, _, _, hn, k1, kL.trans k2, .c _ _ (.row fid ⟨0, 0, i.size, 0, false⟩ a 0 (by simp) (by simp) (by simp) (.inl rfl))⟩
                | true =>
                  obtain ⟨_, cc, T, h4, h5, h6⟩ := hA hlv
                  obtain ⟨k1, k2⟩ := hM.move (e' := .row i.size xs true) (gi' := gi) (w' := w) hm rfl hg hlv hnp hf rfl (fun _ _ => rfl) rfl rfl rfl rfl (fun hL => ⟨h0, hl, h2, h3, hzz, fun _ => ⟨fun h => by simp at h, cc, T, h4, h5, fun i' j e d u a b k => (h6 i' j e d u a b k).mono hL.A⟩⟩)
                  refine ⟨_, _, _, hn, k1, k2, .c _ _ ?_⟩
                  have := Tc.row (g := upd g fid (some gi)) (A := Ok F (upd g fid (some gi)) (upd (upd M id (some .dead)) fid (some (.row i.size xs true))) w) (w := w) fid gi a c (by simp) (by omega) hcc ha
                  rw [hl] at this; exact this
              · have hpos' : 0 < ys.length := List.length_pos_iff.2 hy
                have ha' := ha.resolve_left (by omega)
                subst ha'
                have hlv : gi.live = true := by
                  cases hlv : gi.live with
                  | true => rfl
                  | false =>
                    have hc0 := (hzz hlv).2
                    have : 0 < c * gi.sz := Nat.mul_pos (by omega) (by omega)
                    omega
                obtain ⟨_, cc, T, h4, h5, h6⟩ := hA hlv
                have hfit : xs.length * i.size + news.length ≤ cc.size := by
                  rw [hnl, ← Nat.add_mul]
                  have : (xs.length + ys.length) * i.size ≤ c * i.size := Nat.mul_le_mul_right _ hroom
                  rw [h0] at hcc; omega
                have hrun := run_append_room_src (P := P) w t t2 ty e i (elT_spec he) hi gi.blk 0 xs.length c v ys.length news hsrc hroom
                  (fun j hj => by rw [cell_of_row w _ _ cc T (0, 0) h4]; simp; omega) (fun j hj => by simp [World.frozen?, h4])
                simp only [Nat.zero_add] at hrun
                rw [setCells_eq_setRow (P := P) h4 hfit hsrc.one] at hrun
                refine ⟨_, _, hrun, ?_⟩
                obtain ⟨k1, k2⟩ := hM.move (e' := .row i.size (xs ++ ys) true) (gi' := { gi with len := xs.length + ys.length }) (w' := w.setRow gi.blk (cc.toList.take (xs.length * i.size) ++ news ++ cc.toList.drop (xs.length * i.size + news.length)).toArray)
                  hm rfl hg hlv hnp hf rfl (fun b hb => setRow_other w _ _ _ hb) (by simp) rfl rfl rfl (fun hL => by
                    refine ⟨h0, by simp, fun e he => by rcases List.mem_append.1 he with h | h; exact h2 e h; exact hyl e h, ?_, fun h => by simp [hlv] at h, fun _ => ⟨fun h => by simp at h, _, T, setRow_heap w _ cc _ T (0, 0) h4, ?_, ?_⟩⟩
                    · simp only [List.length_append]
                      have : (xs.length + ys.length) * i.size ≤ c * i.size := Nat.mul_le_mul_right _ hroom
                      rw [h0] at hcc; omega
                    · simp only [List.size_toArray, List.length_append, List.length_take, List.length_drop, Array.length_toList]; omega
                    · refine cells_append (olds := []) h2 hyl hnl (fun i' j e d u he hd hu => ?_) (fun k hk => ?_) (fun i' j e d u he hd hu => (hnews i' j e d u he hd hu).mono hL.A)
                      · have hi' : i' < xs.length := by
                          rcases Nat.lt_or_ge i' xs.length with h | h
                          · exact h
                          · simp [List.getElem?_eq_none h] at he
                        have hj : j < i.size := by
                          have := h2 e (List.mem_of_getElem? he)
                          rcases Nat.lt_or_ge j e.length with h | h
                          · omega
                          · simp [List.getElem?_eq_none h] at hd
                        have hlt' : i' * i.size + j < xs.length * i.size := by
                          have : i' * i.size + i.size ≤ xs.length * i.size := by rw [← Nat.succ_mul]; exact Nat.mul_le_mul_right _ hi'
                          omega
                        simp only [List.getElem?_toArray] at hu
                        rw [splice_get _ _ _ _ (by simp; omega), if_pos hlt'] at hu
                        exact (h6 i' j e d u he hd (by simpa using hu)).mono hL.A
                      · simp only [List.getElem?_toArray]
                        rw [splice_get _ _ _ _ (by simp; omega), if_neg (by omega), if_pos (by omega)]
                        congr 1; omega)
                refine ⟨_, _, _, hn, k1, k2, .c _ _ ?_⟩
                exact Tc.row fid { gi with len := xs.length + ys.length } _ c (by simp) hroom hcc (.inr rfl)
            · -- grows
              have hX : ∃ olds : List Value, olds.length = xs.length * i.size ∧ (∀ (i' j : Nat) e d u, xs[i']? = some e → e[j]? = some d → olds[i' * i.size + j]? = some u → Rc (Ok F g M w) w d u) ∧
                  (Builtin.firstCells i.size xs.length (.slice a xs.length c)).run P w.drew = .ok olds.toArray w.drew := by
                by_cases hx0 : xs = []
                · subst hx0
                  refine ⟨[], by simp, by simp, ?_⟩
                  cases a with
                  | none => exact run_firstCells_none w.drew i.size 0 0 c
                  | some a => exact run_firstCells_some w.drew i.size 0 a 0 c [] (by simp) (by simp)
                · have hlv : gi.live = true := by
                    cases hlv : gi.live with
                    | true => rfl
                    | false => exact absurd (hzz hlv).1 hx0
                  have hxp : 0 < xs.length := List.length_pos_iff.2 hx0
                  have ha' := ha.resolve_left (by omega)
                  subst ha'
                  obtain ⟨_, cc, T, h4, h5, h6⟩ := hA hlv
                  have hfit : xs.length * i.size ≤ cc.size := by omega
                  refine ⟨cc.toList.take (xs.length * i.size), by simp; omega, fun i' j e d u he hd hu => ?_, run_firstCells_some w.drew i.size xs.length ⟨gi.blk, 0, none⟩ xs.length c _ (by simp; omega) (fun j v hj => ?_)⟩
                  · rw [List.getElem?_take] at hu
                    split at hu
                    · exact h6 i' j e d u he hd (by simpa using hu)
                    · simp at hu
                  · rw [List.getElem?_take] at hj
                    split at hj
                    · rw [addp, Nat.zero_add]
                      show w.cell? _ = _
                      rw [cell_of_row w _ _ cc T (0, 0) h4]
                      simpa using hj
                    · simp at hj
              obtain ⟨olds, o1, o2, o3⟩ := hX
              exact grow xs olds a c 0 kM kL hf' h2 o1 (fun i' j e d u a b k => (o2 i' j e d u a b k).mono kL.A) o3 (by omega) hb h62 hn
        · exact h.elim
      · exact h.elim
    · exact h.elim
  · exact h.elim

end Go.Abs
