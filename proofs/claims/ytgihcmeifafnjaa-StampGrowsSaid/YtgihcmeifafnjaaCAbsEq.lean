/- The abstract machine: '==' of structs and arrays of cells. -/
import Derived.Test.YtgihcmeifafnjaaCAbsJ
import Derived.Laws.StructEq
import Derived.ChangeKeysEq
set_option linter.unusedVariables false
set_option linter.unusedSimpArgs false
namespace Go.Abs
open Go

theorem eqCells_v : ∀ {ds es : List D} {b : Bool}, eqCells ds es = some b → (∀ d, d ∈ ds → ∃ x, d = .v x) ∧ (∀ d, d ∈ es → ∃ x, d = .v x)
  | [], [], b, _ => ⟨by simp, by simp⟩
  | d :: ds, e :: es, b, h => by
    have key : ∃ x y t, d = .v x ∧ e = .v y ∧ eqCells ds es = some t := by
      unfold eqCells at h
      split at h
      · rename_i hh; simp at hh
      · rename_i h1 h2; cases h1; cases h2
        split at h
        · obtain ⟨t, ht, _⟩ := Option.map_eq_some_iff.1 h; exact ⟨_, _, t, rfl, rfl, ht⟩
        · simp at h
      · rename_i h1 h2; cases h1; cases h2
        obtain ⟨t, ht, _⟩ := Option.map_eq_some_iff.1 h; exact ⟨_, _, t, rfl, rfl, ht⟩
      · rename_i h1 h2; cases h1; cases h2
        obtain ⟨t, ht, _⟩ := Option.map_eq_some_iff.1 h; exact ⟨_, _, t, rfl, rfl, ht⟩
      · simp at h
    obtain ⟨x, y, t, rfl, rfl, ht⟩ := key
    obtain ⟨a, b⟩ := eqCells_v ht
    exact ⟨fun d hd => by rcases List.mem_cons.1 hd with rfl | h; exact ⟨_, rfl⟩; exact a d h, fun d hd => by rcases List.mem_cons.1 hd with rfl | h; exact ⟨_, rfl⟩; exact b d h⟩
  | [], _ :: _, b, h => by simp [eqCells] at h
  | _ :: _, [], b, h => by simp [eqCells] at h

theorem agg_map_v {g A w} {ds : List D} {us : Array Value} (hl : us.size = ds.length) (hr : ∀ (i : Nat) d u, ds[i]? = some d → us[i]? = some u → Tc g A w d u) (hv : ∀ d, d ∈ ds → ∃ x, d = .v x) : us.toList.map D.v = ds := by
  apply List.ext_getElem?
  intro i
  rcases Nat.lt_or_ge i ds.length with h | h
  · obtain ⟨x, hx⟩ := hv ds[i] (List.getElem_mem h)
    have hi : i < us.size := by omega
    have := hr i ds[i] us[i] (List.getElem?_eq_getElem h) (Array.getElem?_eq_getElem hi)
    rw [hx] at this
    have he : us[i] = x := by
      cases this with | c _ _ h => cases h with | v => rfl
    rw [List.getElem?_eq_getElem h, hx]
    simp [hi, he]
  · rw [List.getElem?_eq_none h, List.getElem?_eq_none (by simp; omega)]

/-- What kind of cell: int 0, bool 1, string 2. -/
def kdD : D → Nat
  | .v (.int _ _) => 0
  | .v (.bool _) => 1
  | .v (.string _) => 2
  | _ => 3
def bkT (P : Program) (t : TypeId) : Option Nat :=
  match P.underlying t with
  | some (.int _) => some 0
  | some .bool => some 1
  | some .string => some 2
  | _ => none
def ckF (P : Program) : List Field → Nat → Option (List Nat)
  | [], _ => some []
  | f :: l, off => match bkT P f.type, ckF P l (off + 1) with
    | some k, some ks => if f.name != "_" && f.offset == off then some (k :: ks) else none
    | _, _ => none
/-- The kinds of the cells of a type that is a struct, or an array, of plain cells. -/
def ckT (P : Program) (t : TypeId) : Option (List Nat) :=
  if P.eqGuardType P.depth t then none else
  match P.underlying t with
  | some (.struct fs) => if P.stoodInHeld t then none else ckF P fs.toList 0
  | some (.array n e) => match bkT P e, szT P e with
    | some k, some 1 => some (List.replicate n k)
    | _, _ => none
  | _ => none
def ckOk (P : Program) (t : TypeId) (ds es : List D) : Prop :=
  match ckT P t with
  | some ks => ds.map kdD = ks ∧ es.map kdD = ks
  | none => False

section
variable {P : Program}

theorem bkT_ag {t : TypeId} {k : Nat} (h : bkT P t = some k) : agT P t = some false := by
  unfold bkT at h; unfold agT
  split at h <;> simp_all

theorem run_part1 {t : TypeId} {k : Nat} (h : bkT P t = some k) {xs : Array Value} {off : Nat} {u : Value} (hu : xs[off]? = some u) (w : World) : (part t xs off).run P w = .ok u w := by
  simp [part, run_isAgg' (bkT_ag h), hu]

theorem run_equalIn_cell' {t : TypeId} {k : Nat} (h : bkT P t = some k) {x y : Value} (hx : kdD (.v x) = k) (hy : kdD (.v y) = k) {b : Bool} (he : eqCells [.v x] [.v y] = some b) (d : Nat) (w : World) : (Op.equalIn (d + 1) t x y).run P w = .ok b w := by
  unfold bkT at h
  split at h <;> simp only [Option.some.injEq, reduceCtorEq] at h <;> subst h
  · rename_i kk hu
    cases x <;> simp [kdD] at hx
    cases y <;> simp [kdD] at hy
    simp only [eqCells] at he
    split at he
    · rename_i hk; subst hk
      simp at he; subst he
      exact run_equalIn_int w d t _ kk _ _ hu
    · simp at he
  · rename_i hu
    cases x <;> simp [kdD] at hx
    cases y <;> simp [kdD] at hy
    simp [eqCells] at he; subst he
    exact run_equalIn_bool' w d t _ _ hu
  · rename_i hu
    cases x <;> simp [kdD] at hx
    cases y <;> simp [kdD] at hy
    simp [eqCells] at he; subst he
    rw [run_equalIn_string w d t _ _ hu, beq_toListBytes]

theorem eqCells_cons {d e : D} {ds es : List D} {b : Bool} (h : eqCells (d :: ds) (e :: es) = some b) : ∃ x y b1 b2, d = .v x ∧ e = .v y ∧ eqCells [.v x] [.v y] = some b1 ∧ eqCells ds es = some b2 ∧ b = (b1 && b2) := by
  unfold eqCells at h
  split at h
  · rename_i hh; simp at hh
  · rename_i h1 h2; cases h1; cases h2
    split at h
    · rename_i hk; subst hk; obtain ⟨t, ht, rfl⟩ := Option.map_eq_some_iff.1 h; exact ⟨_, _, _, t, rfl, rfl, by simp [eqCells], ht, rfl⟩
    · simp at h
  · rename_i h1 h2; cases h1; cases h2
    obtain ⟨t, ht, rfl⟩ := Option.map_eq_some_iff.1 h; exact ⟨_, _, _, t, rfl, rfl, by simp [eqCells], ht, rfl⟩
  · rename_i h1 h2; cases h1; cases h2
    obtain ⟨t, ht, rfl⟩ := Option.map_eq_some_iff.1 h; exact ⟨_, _, _, t, rfl, rfl, by simp [eqCells], ht, rfl⟩
  · simp at h

theorem run_eqFields {xs ys : Array Value} (d : Nat) (w : World) : ∀ (fs : List Field) (off : Nat) (ks : List Nat) (ds es : List D) (b : Bool), ckF P fs off = some ks → ds.map kdD = ks → es.map kdD = ks →
    (xs.toList.drop off).map D.v = ds → (ys.toList.drop off).map D.v = es → eqCells ds es = some b → (Op.eqFields (d + 1) xs ys fs).run P w = .ok b w
  | [], off, ks, ds, es, b, hk, hd, he, _, _, hb => by
    simp only [ckF, Option.some.injEq] at hk; subst hk
    have e1 : ds = [] := by simpa using hd
    have e2 : es = [] := by simpa using he
    subst e1; subst e2
    simp [eqCells] at hb; subst hb
    simp [Op.eqFields]
  | f :: fs, off, ks, ds, es, b, hk, hd, he, hxs, hys, hb => by
    simp only [ckF] at hk
    split at hk
    · rename_i k ks' h1 h2
      split at hk
      · rename_i hn
        simp only [Bool.and_eq_true, bne_iff_ne, ne_eq, beq_iff_eq] at hn
        cases hk
        cases ds with
        | nil => simp at hd
        | cons d0 ds =>
          cases es with
          | nil => simp at he
          | cons e0 es =>
            simp only [List.map_cons, List.cons.injEq] at hd he
            obtain ⟨x, y, b1, b2, rfl, rfl, hb1, hb2, rfl⟩ := eqCells_cons hb
            have hx0 : xs[off]? = some x := by
              have := congrArg (·[0]?) hxs
              simp only [List.getElem?_map, List.getElem?_drop, Nat.add_zero, List.getElem?_cons_zero, Array.getElem?_toList] at this
              obtain ⟨q, hq, hqe⟩ := Option.map_eq_some_iff.1 this
              cases hqe; exact hq
            have hy0 : ys[off]? = some y := by
              have := congrArg (·[0]?) hys
              simp only [List.getElem?_map, List.getElem?_drop, Nat.add_zero, List.getElem?_cons_zero, Array.getElem?_toList] at this
              obtain ⟨q, hq, hqe⟩ := Option.map_eq_some_iff.1 this
              cases hqe; exact hq
            have tl : ∀ {zs : Array Value} {z : Value} {l : List D}, (zs.toList.drop off).map D.v = .v z :: l → (zs.toList.drop (off + 1)).map D.v = l := by
              intro zs z l h
              have := congrArg List.tail h
              simpa [List.map_drop] using this
            have ih := run_eqFields d w fs (off + 1) ks' ds es b2 h2 hd.2 he.2 (tl hxs) (tl hys) hb2
            have hp1 := run_part1 h1 hx0 w
            have hp2 := run_part1 h1 hy0 w
            have hq := run_equalIn_cell' h1 hd.1 he.1 hb1 d w
            simp only [Op.eqFields, ne_eq, hn.1, not_false_eq_true, if_true, hn.2, Sem.run_bind, hp1, hp2, hq, Result.andThen_ok, Sem.run_ite]
            cases b1 with
            | false => simp
            | true => simp [ih]
      · cases hk
    · cases hk

theorem run_eqItems' {xs ys : Array Value} {e : TypeId} {k : Nat} (hk : bkT P e = some k) (d : Nat) (w : World) : ∀ (m off : Nat) (ds es : List D) (b : Bool), ds.map kdD = List.replicate m k → es.map kdD = List.replicate m k →
    (xs.toList.drop off).map D.v = ds → (ys.toList.drop off).map D.v = es → eqCells ds es = some b → (Op.eqItems (d + 1) e 1 xs ys (List.range' off m)).run P w = .ok b w
  | 0, off, ds, es, b, hd, he, _, _, hb => by
    have e1 : ds = [] := by simpa using hd
    have e2 : es = [] := by simpa using he
    subst e1; subst e2
    simp [eqCells] at hb; subst hb
    simp [Op.eqItems]
  | m + 1, off, ds, es, b, hd, he, hxs, hys, hb => by
    cases ds with
    | nil => simp [List.replicate_succ] at hd
    | cons d0 ds =>
      cases es with
      | nil => simp [List.replicate_succ] at he
      | cons e0 es =>
        simp only [List.replicate_succ, List.map_cons, List.cons.injEq] at hd he
        obtain ⟨x, y, b1, b2, rfl, rfl, hb1, hb2, rfl⟩ := eqCells_cons hb
        have hx0 : xs[off]? = some x := by
          have := congrArg (·[0]?) hxs
          simp only [List.getElem?_map, List.getElem?_drop, Nat.add_zero, List.getElem?_cons_zero, Array.getElem?_toList] at this
          obtain ⟨q, hq, hqe⟩ := Option.map_eq_some_iff.1 this
          cases hqe; exact hq
        have hy0 : ys[off]? = some y := by
          have := congrArg (·[0]?) hys
          simp only [List.getElem?_map, List.getElem?_drop, Nat.add_zero, List.getElem?_cons_zero, Array.getElem?_toList] at this
          obtain ⟨q, hq, hqe⟩ := Option.map_eq_some_iff.1 this
          cases hqe; exact hq
        have tl : ∀ {zs : Array Value} {z : Value} {l : List D}, (zs.toList.drop off).map D.v = .v z :: l → (zs.toList.drop (off + 1)).map D.v = l := by
          intro zs z l h
          have := congrArg List.tail h
          simpa [List.map_drop] using this
        have ih := run_eqItems' hk d w m (off + 1) ds es b2 hd.2 he.2 (tl hxs) (tl hys) hb2
        have hp1 := run_part1 hk hx0 w
        have hp2 := run_part1 hk hy0 w
        have hq := run_equalIn_cell' hk hd.1 he.1 hb1 d w
        simp only [List.range'_succ, Op.eqItems, Nat.mul_one, Sem.run_bind, hp1, hp2, hq, Result.andThen_ok, Sem.run_ite]
        cases b1 with
        | false => simp
        | true => simp [ih]

theorem run_equal_agg {t : TypeId} {xs ys : Array Value} {ds es : List D} {b : Bool} (hc : ckOk P t ds es) (hx : xs.toList.map D.v = ds) (hy : ys.toList.map D.v = es) (hb : eqCells ds es = some b) (d : Nat) (w : World) :
    (Op.equalIn (d + 2) t (.agg xs) (.agg ys)).run P w = .ok b w := by
  unfold ckOk at hc
  split at hc
  · rename_i ks hk
    unfold ckT at hk
    split at hk
    · cases hk
    · split at hk
      · rename_i fs hf
        split at hk
        · cases hk
        · rename_i hst
          have hff : P.fieldsOf t = fs := by simp [Program.fieldsOf, hf]
          rw [run_equalIn_struct w (d + 1) t xs ys (by rw [hff]; exact hf) (by simpa using hst), hff]
          exact run_eqFields d w _ 0 ks ds es b hk hc.1 hc.2 (by simpa using hx) (by simpa using hy) hb
      · rename_i n e hf
        split at hk
        · rename_i k hk1 hsz
          cases hk
          unfold szT at hsz
          obtain ⟨i, hi, hs⟩ := Option.map_eq_some_iff.1 hsz
          have hco : P.cellsOf e = 1 := by simp [Program.cellsOf, hi, hs]
          rw [run_equalIn_array w (d + 1) xs ys hf hi, hco, List.range_eq_range']
          exact run_eqItems' hk1 d w n 0 ds es b hc.1 hc.2 (by simpa using hx) (by simpa using hy) hb
        · cases hk
      · cases hk
  · exact hc.elim

theorem ckOk_guard {t : TypeId} {ds es : List D} (hc : ckOk P t ds es) : P.eqGuardType P.depth t = false := by
  unfold ckOk ckT at hc
  split at hc
  · rename_i hk
    split at hk
    · cases hk
    · rename_i h; simpa using h
  · exact hc.elim

theorem bin_agg {t : TypeId} {op : BinOp} {xo yo : Operand} {xs ys : Array Value} {ds es : List D} {b : Bool} (ho : op = .eql ∨ op = .neq) (hc : ckOk P t ds es) (hx : xs.toList.map D.v = ds) (hy : ys.toList.map D.v = es) (hb : eqCells ds es = some b) (w : World) :
    (do eqGuard op t xo yo (.agg xs) (.agg ys); binOp op t (.agg xs) (.agg ys) : Sem Value).run P w = .ok (.bool (if op = .eql then b else !b)) w := by
  simp only [Sem.run_bind, run_eqGuard_agg w op t xo yo xs ys (ckOk_guard hc), Result.andThen_ok]
  have := run_equal_agg hc hx hy hb 9998 w
  rcases ho with rfl | rfl
  · rw [run_eql_struct, this]; simp
  · rw [run_neq_struct, this]; simp

theorem run_checkKey1 {e : TypeId} {k : Nat} (hk : bkT P e = some k) (em : Bool) (n : Nat) (v : Value) (hv : kdD (.v v) = k) (w : World) : (Instr.checkKey em (n + 1) e v).run P w = .ok () w := by
  unfold bkT at hk
  split at hk <;> simp only [Option.some.injEq, reduceCtorEq] at hk <;> subst hk <;> rename_i hu
  · cases v <;> simp [kdD] at hv; simp [Instr.checkKey, run_underlying hu]
  · cases v <;> simp [kdD] at hv; simp [Instr.checkKey, run_underlying hu]
  · cases v <;> simp [kdD] at hv; simp [Instr.checkKey, run_underlying hu]

theorem get_of_map {xs : Array Value} {off : Nat} {ds : List D} {d : D} (h : (xs.toList.drop off).map D.v = d :: ds) : ∃ x, d = .v x ∧ xs[off]? = some x ∧ (xs.toList.drop (off + 1)).map D.v = ds := by
  have h0 := congrArg (·[0]?) h
  simp only [List.getElem?_map, List.getElem?_drop, Nat.add_zero, List.getElem?_cons_zero, Array.getElem?_toList] at h0
  obtain ⟨q, hq, hqe⟩ := Option.map_eq_some_iff.1 h0
  refine ⟨q, hqe.symm, hq, ?_⟩
  have := congrArg List.tail h
  simpa [List.map_drop] using this

/-- A key can be looked for. -/
theorem run_check_agg {t : TypeId} {xs : Array Value} {ds : List D} (hc : ckOk P t ds ds) (hx : xs.toList.map D.v = ds) (em : Bool) (m : Nat) (w : World) : (Instr.checkKey em (m + 2) t (.agg xs)).run P w = .ok () w := by
  unfold ckOk at hc
  split at hc
  · rename_i ks hk
    obtain ⟨hc, _⟩ := hc
    unfold ckT at hk
    split at hk
    · cases hk
    · split at hk
      · rename_i fs hu
        split at hk
        · cases hk
        · rw [Instr.checkKey]
          simp only [Sem.run_bind, run_underlying hu, Result.andThen_ok]
          rw [← Array.forIn_toList]
          have hx' : (xs.toList.drop 0).map D.v = ds := by simpa using hx
          generalize fs.toList = l at hk
          generalize 0 = off at hk hx'
          clear hx
          induction l generalizing off ks ds with
          | nil => simp
          | cons f l ih =>
            simp only [ckF] at hk
            split at hk
            · rename_i k ks' h1 h2
              split at hk
              · rename_i hn
                simp only [Bool.and_eq_true, bne_iff_ne, ne_eq, beq_iff_eq] at hn
                cases hk
                cases ds with
                | nil => simp at hc
                | cons d0 ds =>
                  simp only [List.map_cons, List.cons.injEq] at hc
                  obtain ⟨x, rfl, hx0, htl⟩ := get_of_map hx'
                  have p1 := run_part1 h1 hx0 w
                  have p2 := run_checkKey1 h1 em m x hc.1 w
                  simp only [List.forIn_cons, Sem.run_bind, Sem.run_ite, ne_eq, hn.1, not_false_eq_true, if_true, hn.2, p1, p2, Result.andThen_ok, Sem.run_pure]
                  exact ih _ hc.2 hc.2 (off + 1) h2 htl
              · cases hk
            · cases hk
      · rename_i n e hu
        split at hk
        · rename_i k hk1 hsz
          cases hk
          unfold szT at hsz
          obtain ⟨i, hi, hs⟩ := Option.map_eq_some_iff.1 hsz
          have hco : P.cellsOf e = 1 := by simp [Program.cellsOf, hi, hs]
          rw [Instr.checkKey]
          simp only [Sem.run_bind, run_underlying hu, Result.andThen_ok]
          simp only [Std.Legacy.Range.forIn_eq_forIn_range', Std.Legacy.Range.size, Nat.sub_zero, Nat.add_one_sub_one, Nat.div_one]
          have hx' : (xs.toList.drop 0).map D.v = ds := by simpa using hx
          clear hx hu
          generalize 0 = off at hx'
          induction n generalizing off ds with
          | zero => simp
          | succ n ih =>
            cases ds with
            | nil => simp [List.replicate_succ] at hc
            | cons d0 ds =>
              simp only [List.replicate_succ, List.map_cons, List.cons.injEq] at hc
              obtain ⟨x, rfl, hx0, htl⟩ := get_of_map hx'
              have p1 := run_part1 hk1 hx0 w
              have p2 := run_checkKey1 hk1 em m x hc.1 w
              simp only [List.range'_succ, List.forIn_cons, Sem.run_bind, run_sizeOf w hi, hco, Nat.mul_one, Result.andThen_ok, p1, p2, Sem.run_pure]
              exact ih hc.2 hc.2 (off + 1) htl
        · cases hk
      · cases hk
  · exact hc.elim

theorem ckOk_wide {t : TypeId} {ds es : List D} (hc : ckOk P t ds es) : (match P.underlying t with | some (.array _ _) | some (.struct _) => true | _ => false) = true := by
  unfold ckOk ckT at hc
  split at hc
  · rename_i hk
    split at hk
    · cases hk
    · split at hk <;> simp_all
  · exact hc.elim
end
end Go.Abs
