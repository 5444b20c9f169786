/- The abstract machine: maps. -/
import Derived.Test.YtgihcmeifafnjaaCAbsEq
import Derived.WideKeyRuns
set_option linter.unusedVariables false
set_option linter.unusedSimpArgs false
namespace Go.Abs
open Go Go.ChangeMaps

/-- Where the parts of a struct, or of an array, lie. -/
def plT (P : Program) (t : TypeId) : Option (List (Nat × Nat)) := match P.underlying t with
  | some (.struct fs) => fs.toList.mapM (fun f => (szT P f.type).map fun n => (f.offset, n))
  | some (.array n e) => (szT P e).map fun k => (List.range n).map fun i => (i * k, k)
  | _ => none
def semBuildT (P : Program) (t : TypeId) (parts : List (Nat × D)) (M : Mem) (nx : D → Mem → Prop) : Prop :=
  parts.all (fun p => (cellsD p.2).all isCell) = true ∧
  match zc P t, plT P t with
  | some zs, some pl => zs.all isCell = true ∧ match fillD (fun i => pl[i]?) zs parts with
    | some cs => nx (.agg cs) M
    | none => False
  | _, _ => False
theorem fillD_mono {f g : Nat → Option (Nat × Nat)} (h : ∀ i p, f i = some p → g i = some p) : ∀ (parts : List (Nat × D)) (cs cs' : List D), fillD f cs parts = some cs' → fillD g cs parts = some cs'
  | [], _, _, hh => hh
  | (i, d) :: l, cs, cs', hh => by
    simp only [fillD] at hh ⊢
    cases hf : f i with
    | none => rw [hf] at hh; cases hh
    | some p =>
      rw [hf] at hh; rw [h i p hf]
      simp only at hh ⊢
      split at hh
      · rename_i hc; rw [if_pos hc]; exact fillD_mono h l _ _ hh
      · cases hh
theorem semBuildT_imp {P : Program} {t : TypeId} {parts : List (Nat × D)} {M : Mem} {nx : D → Mem → Prop} (h : semBuildT P t parts M nx) : semBuild' P t parts M nx := by
  obtain ⟨h0, h⟩ := h
  refine ⟨h0, ?_⟩
  split at h
  · rename_i zs pl hz hp
    obtain ⟨h1, h⟩ := h
    rw [hz]
    refine ⟨h1, ?_⟩
    split at h
    · rename_i cs hcs
      unfold plT at hp
      split at hp
      · rename_i fs hu
        simp only [hu, hp, hcs]; exact h
      · rename_i n e hu
        obtain ⟨k, hk, rfl⟩ := Option.map_eq_some_iff.1 hp
        have := fillD_mono (g := fun i => some (i * k, k)) (fun i p hi => by
          simp only [List.getElem?_map] at hi
          obtain ⟨j, hj, rfl⟩ := Option.map_eq_some_iff.1 hi
          have hl : i < n := by
            rcases Nat.lt_or_ge i n with h | h
            · exact h
            · rw [List.getElem?_eq_none (by simpa using h)] at hj; cases hj
          rw [List.getElem?_range hl] at hj
          cases hj; rfl) parts zs cs hcs
        simp only [hu, hk, this]; exact h
      · cases hp
    · exact h.elim
  · exact h.elim

def kvT (P : Program) (t : TypeId) : Option (TypeId × TypeId) := match P.underlying t with | some (.map k e) => some (k, e) | _ => none
/-- A type's zero value. -/
def zD (P : Program) (t : TypeId) : Option D := (P.info? t).bind fun i => i.zero.map constD

/-- Where a key stands. -/
def findK : List (D × D) → D → Nat → Option (Option (Nat × D))
  | [], _, _ => some none
  | (.agg es, v) :: l, .agg ds, i => match eqCells ds es with
    | some true => some (some (i, v))
    | some false => findK l (.agg ds) (i + 1)
    | none => none
  | _, _, _ => none
def setK (kvs : List (D × D)) (k v : D) : Option (List (D × D)) :=
  match findK kvs k 0 with
  | some (some (i, _)) => some (kvs.set i (k, v))
  | some none => some (kvs ++ [(k, v)])
  | none => none
def keyOk (P : Program) (t : TypeId) : D → Prop
  | .agg ds => ckOk P t ds ds
  | _ => False

def semMakeMap (M : Mem) (fid : Nat) (nx : D → Mem → Prop) : Prop := M fid = none ∧ nx (.mp fid) (upd M fid (some (.map [] true)))
def okD (ok : Bool) (v : D) (b : Bool) : D := if ok then .tup [v, .v (.bool b)] else v
def semLookup (P : Program) (t : TypeId) (m k : D) (ok : Bool) (M : Mem) (nx : D → Mem → Prop) : Prop :=
  match m, kvT P t with
  | .mp id, some (kt, et) => keyOk P kt k ∧ match M id with
    | some (.map kvs _) => match findK kvs k 0 with
      | some (some (_, v)) => nx (okD ok v true) M
      | some none => match zD P et with
        | some z => (cellsD z).all isCell = true ∧ nx (okD ok z false) M
        | none => False
      | none => False
    | _ => False
  | _, _ => False
def semMapUpdate (P : Program) (np : Nat) (t : TypeId) (m k v : D) (M : Mem) (nx : D → Mem → Prop) : Prop :=
  match m, kvT P t with
  | .mp id, some (kt, et) => keyOk P kt k ∧ match frz np M v id, fz (frz np M v) false 1 v with
    | some (.map kvs true), some v' => match setK kvs k v' with
      | some kvs' => nx .junk (upd (frz np M v) id (some (.map kvs' true)))
      | none => False
    | _, _ => False
  | _, _ => False
def semRange (P : Program) (np : Nat) (t : TypeId) (m : D) (M : Mem) (fid : Nat) (nx : D → Mem → Prop) : Prop :=
  match m with
  | .mp id => (kvT P t).isSome = true ∧ M fid = none ∧ np ≤ id ∧ match M id with
    | some (.map kvs _) => nx (.it fid) (upd (upd M id (some (.map kvs false))) fid (some (.iter kvs none)))
    | _ => False
  | _ => False
def semNext (isString : Bool) (it : D) (M : Mem) (nx : D → Mem → Prop) : Prop :=
  match it with
  | .it id => isString = false ∧ match M id with
    | some (.iter left last) => (left = [] → nx (.tup [.v (.bool false)]) M) ∧ ∀ (j : Nat) (k v : D), left[j]? = some (k, v) → nx (.tup [.v (.bool true), k, v]) (upd M id (some (.iter (left.eraseIdx j) (some (k, v)))))
    | _ => False
  | _ => False
def semEntry (it : D) (M : Mem) (nx : D → Mem → Prop) : Prop :=
  match it with
  | .it id => match M id with
    | some (.iter left (some (k, v))) => nx (.tup [k, v]) M
    | _ => False
  | _ => False

theorem constD_ok {g A w} {v : Value} (h : (cellsD (constD v)).all isCell = true) : Tv g A w (constD v) v := by
  have hc : ∀ v : Value, isCell (cellD v) = true → Tv g A w (cellD v) v := fun v h => .c _ _ (.c _ _ (cellD_ok h))
  have hcc : ∀ v : Value, (cellsD (cellD v)).all isCell = true → isCell (cellD v) = true := by
    intro v h
    have : cellsD (cellD v) = [cellD v] := by
      unfold cellD
      split
      · rfl
      · split <;> rfl
    rw [this] at h; simpa using h
  have key : ∀ v : Value, constD v = cellD v → (cellsD (constD v)).all isCell = true → Tv g A w (constD v) v := fun v hv h => by rw [hv] at h ⊢; exact hc v (hcc v h)
  cases v with
  | agg cs =>
    simp only [constD, cellsD] at h
    refine .agg _ _ (by simp) fun i d u hd hu => ?_
    simp only [List.getElem?_map, Array.getElem?_toList] at hd
    rw [hu] at hd
    simp only [Option.map_some, Option.some.injEq] at hd
    subst hd
    refine .c _ _ (cellD_ok ?_)
    rw [List.all_eq_true] at h
    exact h _ (List.mem_map.2 ⟨u, by simpa using Array.mem_of_getElem? hu, rfl⟩)
  | _ => exact key _ rfl h

theorem fzV_ok {F : Fr} {g M w} (hM : MemOk F g M w) {d d' : D} {u : Value} (hv : Tv g (Ok F g M w) w d u) (h1 : fz M false 1 d = some d') : Rv (Ok F g M w) w d' u := by
  cases hv with
  | c _ _ hc => exact .c _ _ (.c _ _ (fz_ok hM (fun _ h => h) (fun h => by simp at h) 1 hc.isCell hc h1))
  | agg cs us hl' hra =>
    simp only [fz] at h1
    split at h1
    · rename_i cs' hcs
      cases h1
      refine .agg _ _ (by rw [hl', mapO_length hcs]) fun i d u hd hu => ?_
      obtain ⟨x, hx1, hx2⟩ := mapO_get hcs hd
      have ht := hra i x u hx1 hu
      exact .c _ _ (fz_ok hM (fun _ h => h) (fun h => by simp at h) 0 ht.isCell ht hx2)
    · simp at h1
  | tup => simp [fz, fz0] at h1
  | junk => simp [fz, fz0] at h1

theorem kdD_v {d : D} {k : Nat} (h : kdD d = k) (hk : k < 3) : ∃ x, d = .v x ∧ plainC d = true := by
  unfold kdD at h
  split at h <;> first | exact ⟨_, rfl, rfl⟩ | omega
theorem ckF_lt {P : Program} : ∀ {fs : List Field} {off : Nat} {ks : List Nat}, ckF P fs off = some ks → ∀ k, k ∈ ks → k < 3
  | [], _, ks, h, k, hk => by simp [ckF] at h; subst h; simp at hk
  | f :: fs, off, ks, h, k, hk => by
    simp only [ckF] at h
    split at h
    · rename_i k0 ks0 h1 h2
      split at h
      · cases h
        rcases List.mem_cons.1 hk with rfl | hk
        · unfold bkT at h1; split at h1 <;> simp at h1 <;> omega
        · exact ckF_lt h2 k hk
      · cases h
    · cases h
theorem ckT_lt {P : Program} {t : TypeId} {ks : List Nat} (h : ckT P t = some ks) : ∀ k, k ∈ ks → k < 3 := by
  intro k hk
  unfold ckT at h
  split at h
  · cases h
  · split at h
    · split at h
      · cases h
      · exact ckF_lt h k hk
    · split at h
      · rename_i k0 h1 _
        cases h
        have := List.eq_of_mem_replicate hk
        subst this
        unfold bkT at h1; split at h1 <;> simp at h1 <;> omega
      · cases h
    · cases h
theorem ckOk_plain {P : Program} {t : TypeId} {ds es : List D} (h : ckOk P t ds es) : ∀ d, d ∈ ds → (∃ x, d = .v x) ∧ plainC d = true := by
  intro d hd
  unfold ckOk at h
  split at h
  · rename_i ks hk
    obtain ⟨x, hx, hp⟩ := kdD_v (d := d) rfl (ckT_lt hk _ (by rw [← h.1]; exact List.mem_map.2 ⟨d, hd, rfl⟩))
    exact ⟨⟨x, hx⟩, hp⟩
  · exact h.elim

theorem eqCells_kd : ∀ {ds es : List D} {b : Bool}, eqCells ds es = some b → es.map kdD = ds.map kdD
  | [], [], _, _ => rfl
  | d :: ds, e :: es, b, h => by
    obtain ⟨x, y, b1, b2, rfl, rfl, h1, h2, _⟩ := eqCells_cons h
    simp only [List.map_cons, eqCells_kd h2, List.cons.injEq, and_true]
    cases x <;> cases y <;> simp_all [eqCells, kdD]
  | [], _ :: _, b, h => by simp [eqCells] at h
  | _ :: _, [], b, h => by simp [eqCells] at h

theorem ckOk_of {P : Program} {t : TypeId} {ds es : List D} {b : Bool} (hc : ckOk P t ds ds) (h : eqCells ds es = some b) : ckOk P t ds es := by
  unfold ckOk at hc ⊢
  cases hk : ckT P t with
  | some ks => rw [hk] at hc; exact ⟨hc.1, by rw [eqCells_kd h]; exact hc.1⟩
  | none => rw [hk] at hc; exact hc.elim

theorem Tv.aggV {g A w} {ds : List D} {u : Value} (h : Tv g A w (.agg ds) u) (hv : ∀ d, d ∈ ds → ∃ x, d = .v x) : ∃ us : Array Value, u = .agg us ∧ us.toList.map D.v = ds := by
  cases h with
  | c _ _ h => cases h with | c _ _ h => cases h
  | agg _ us hl hr => exact ⟨us, rfl, agg_map_v hl hr hv⟩

theorem run_findAsking' {P : Program} {A : Nat → Prop} {w : World} {kt : TypeId} {ds : List D} {xs : Array Value} (hc : ckOk P kt ds ds) (hx : xs.toList.map D.v = ds) : ∀ (kvs : List (D × D)) (es : List MapEntry) (i : Nat) (r : Option (Nat × D)),
    EntsOk A w kvs es → findK kvs (.agg ds) i = some r →
    (r = none ∧ (Instr.findAsking kt (.agg xs) es i).run P w = .ok none w) ∨
    ∃ (j : Nat) (v : D) (e : MapEntry) (ks : List D), r = some (i + j, v) ∧ kvs[j]? = some (.agg ks, v) ∧ es[j]? = some e ∧ eqCells ds ks = some true ∧ (Instr.findAsking kt (.agg xs) es i).run P w = .ok (some (i + j, e.val)) w
  | [], es, i, r, hE, h => by
    simp only [findK, Option.some.injEq] at h; subst h
    have : es = [] := List.eq_nil_of_length_eq_zero (by simpa using hE.1)
    subst this
    exact .inl ⟨rfl, by simp [Instr.findAsking]⟩
  | (k', v) :: kvs, [], i, r, hE, h => by have := hE.1; simp at this
  | (k', v) :: kvs, e :: es, i, r, hE, h => by
    obtain ⟨ks, rfl⟩ : ∃ ks, k' = .agg ks := by
      unfold findK at h
      split at h <;> simp_all
    unfold findK at h
    have h0 := (hE.2 0 _ e rfl rfl).1
    have hE' : EntsOk A w kvs es := ⟨by simpa using hE.1, fun j kv e a b => hE.2 (j + 1) kv e (by simpa using a) (by simpa using b)⟩
    split at h
    · rename_i hb
      cases h
      obtain ⟨us, hu, hus⟩ := h0.aggV (eqCells_v hb).2
      refine .inr ⟨0, v, e, ks, rfl, rfl, rfl, hb, ?_⟩
      have := run_equal_agg (ckOk_of hc hb) hx hus hb 9998 w
      simp only [Instr.findAsking, hu, Sem.run_bind]
      have h2 : (Op.equal kt (.agg xs) (.agg us)).run P w = .ok true w := this
      rw [h2]; simp
    · rename_i hb
      obtain ⟨us, hu, hus⟩ := h0.aggV (eqCells_v hb).2
      have h2 : (Op.equal kt (.agg xs) (.agg us)).run P w = .ok false w := run_equal_agg (ckOk_of hc hb) hx hus hb 9998 w
      have hstep : (Instr.findAsking kt (.agg xs) (e :: es) i).run P w = (Instr.findAsking kt (.agg xs) es (i + 1)).run P w := by
        simp only [Instr.findAsking, hu, Sem.run_bind, h2, Result.andThen_ok]
        simp
      rcases run_findAsking' hc hx kvs es (i + 1) r hE' h with ⟨h3, h4⟩ | ⟨j, v', e', ks', h3, h4, h5, h6, h7⟩
      · exact .inl ⟨h3, by rw [hstep]; exact h4⟩
      · exact .inr ⟨j + 1, v', e', ks', by rw [h3]; congr 2; omega, by simpa using h4, by simpa using h5, h6, by rw [hstep, h7]; congr 3; omega⟩
    · cases h

section
variable {P : Program} {F : Fr} {g : Nat → Option GI} {M : Mem} {w : World} {nx : D → Mem → Prop}

theorem kvT_spec {t k e : TypeId} (h : kvT P t = some (k, e)) : P.underlying t = some (.map k e) := by
  unfold kvT at h; split at h <;> simp_all

theorem makeMap_ok (hM : MemOk F g M w) {t : TypeId} {fid : Nat} (h : semMakeMap M fid nx) : ∃ v w', (Instr.makeMap t none).run P w = .ok v w' ∧ SR F g M w nx v w' := by
  obtain ⟨hf, hn⟩ := h
  obtain ⟨h1, h2⟩ := hM.alloc hf (.map #[] 0) (.map [] true) ⟨w.heap.size, 0, 0, 0, true⟩ rfl
    (fun hL => ⟨rfl, fun h => by simp at h, #[], by simp, by simp, by simp [EntsOk]⟩)
  refine ⟨_, _, ?_, _, _, _, hn, h1, h2, .c _ _ (.mp fid ⟨w.heap.size, 0, 0, 0, true⟩ (by simp))⟩
  simp [Instr.makeMap, newObj]; rfl

theorem okD_ok {A : Nat → Prop} {d : D} {u : Value} (ok b : Bool) (h : Tv g A w d u) : Tv g A w (okD ok d b) (if ok then .tuple #[u, .bool b] else u) := by
  cases ok with
  | false => exact h
  | true =>
    refine .tup _ _ rfl fun i d' u' hd hu => ?_
    match i with
    | 0 => simp at hd hu; subst hd; subst hu; exact h
    | 1 => simp at hd hu; subst hd; subst hu; exact .c _ _ (.c _ _ (.v _ rfl))
    | i + 2 => simp at hd

theorem lookup_ok (hM : MemOk F g M w) {t : TypeId} {m k : D} {u v : Value} {ok : Bool} (hm : Tv g (Ok F g M w) w m u) (hk : Tv g (Ok F g M w) w k v) (h : semLookup P t m k ok M nx) :
    ∃ r w', (Instr.lookup t u v ok).run P w = .ok r w' ∧ SR F g M w nx r w' := by
  unfold semLookup at h
  split at h
  · rename_i id kt et hkv
    obtain ⟨hko, h⟩ := h
    have hu := kvT_spec hkv
    cases k <;> simp only [keyOk] at hko
    rename_i ds
    split at h
    · rename_i kvs ex hmi
      cases hm.cell rfl with
      | c _ _ hh => cases hh
      | mp _ gi hg =>
        obtain ⟨gi', hg', hlv, hA, es, h4, h5, h6⟩ := hM.ent id _ hmi
        rw [hg] at hg'; cases hg'
        obtain ⟨xs, rfl, hxs⟩ := hk.aggV fun d hd => (ckOk_plain hko d hd).1
        have hch := run_check_agg hko hxs es.isEmpty 9998 w
        have hfk := run_findKey_eq (P := P) w (ckOk_wide hko) (.agg xs) es.toList
        have base : ∀ r, findK kvs (.agg ds) 0 = some r → (r = none ∧ (Instr.findKey kt (.agg xs) es.toList).run P w = .ok none w) ∨
            ∃ (j : Nat) (v : D) (e : MapEntry), r = some (j, v) ∧ Tv g (Ok F g M w) w v e.val ∧ (Instr.findKey kt (.agg xs) es.toList).run P w = .ok (some (j, e.val)) w := by
          intro r hr
          rcases run_findAsking' (P := P) hko hxs kvs es.toList 0 r h6 hr with ⟨h7, h8⟩ | ⟨j, v, e, ks, h7, h8, h9, h10, h11⟩
          · exact .inl ⟨h7, by rw [hfk]; exact h8⟩
          · exact .inr ⟨j, v, e, by simpa using h7, ((h6.2 j _ e h8 h9).2).noId, by rw [hfk, h11]; simp⟩
        split at h
        · rename_i i v hf
          rcases base _ hf with ⟨h7, _⟩ | ⟨j, v', e, h7, h8, h9⟩
          · cases h7
          · simp only [Option.some.injEq, Prod.mk.injEq] at h7
            obtain ⟨rfl, rfl⟩ := h7
            refine ⟨_, w, by simp [Instr.lookup, run_underlying hu, MapKept.run_getObj_map h4, hch, h9], SR.plain hM h (okD_ok ok true h8)⟩
        · rename_i hf
          split at h
          · rename_i z hz
            rcases base _ hf with ⟨_, h8⟩ | ⟨j, v', e, h7, _⟩
            · obtain ⟨i, hi, hzz⟩ := Option.bind_eq_some_iff.1 hz
              obtain ⟨zv, hzv, rfl⟩ := Option.map_eq_some_iff.1 hzz
              refine ⟨_, w, by simp [Instr.lookup, run_underlying hu, MapKept.run_getObj_map h4, hch, h8, run_zeroValue hi hzv], SR.plain hM h.2 (okD_ok ok false (constD_ok h.1))⟩
            · cases h7
          · exact h.elim
        · exact h.elim
    · exact h.elim
  · exact h.elim

theorem sameBits_cell {x y : Value} (h : eqCells [.v x] [.v y] = some true) (n : Nat) : Instr.sameBits n y x = true := by
  cases x <;> cases y <;> simp [eqCells] at h
  · subst h; unfold Instr.sameBits; simp
  · obtain ⟨rfl, rfl⟩ := h; unfold Instr.sameBits; simp
  · unfold Instr.sameBits
    rw [beq_toListBytes] at h ⊢
    simp only [beq_iff_eq] at h ⊢
    exact h.symm

theorem sameBits_all : ∀ {ds es : List D} {xs ys : List Value}, eqCells ds es = some true → xs.map D.v = ds → ys.map D.v = es → xs.length = ys.length ∧ ∀ n, (ys.zip xs).all (fun p => Instr.sameBits n p.1 p.2) = true
  | [], [], xs, ys, _, hx, hy => by
    have e1 : xs = [] := by simpa using hx
    have e2 : ys = [] := by simpa using hy
    subst e1; subst e2; simp
  | d :: ds, e :: es, xs, ys, h, hx, hy => by
    obtain ⟨x, y, b1, b2, rfl, rfl, h1, h2, hb⟩ := eqCells_cons h
    cases xs with
    | nil => simp at hx
    | cons x' xs =>
      cases ys with
      | nil => simp at hy
      | cons y' ys =>
        simp only [List.map_cons, List.cons.injEq, D.v.injEq] at hx hy
        obtain ⟨rfl, hx⟩ := hx
        obtain ⟨rfl, hy⟩ := hy
        have hb' : b1 = true ∧ b2 = true := by cases b1 <;> cases b2 <;> simp at hb <;> simp
        obtain ⟨rfl, rfl⟩ := hb'
        obtain ⟨k1, k2⟩ := sameBits_all h2 hx hy
        refine ⟨by simp [k1], fun n => ?_⟩
        simp only [List.zip_cons_cons, List.all_cons, k2, Bool.and_true]
        exact sameBits_cell h1 n
  | [], _ :: _, _, _, h, _, _ => by simp [eqCells] at h
  | _ :: _, [], _, _, h, _, _ => by simp [eqCells] at h

theorem keyStays {ds es : List D} {xs ys : Array Value} (h : eqCells ds es = some true) (hx : xs.toList.map D.v = ds) (hy : ys.toList.map D.v = es) : (Instr.keyThatStays (.agg ys) (.agg xs)).run P w = .ok (.agg xs) w := by
  have : ∀ n, Instr.sameBits (n + 1) (.agg ys) (.agg xs) = true := by
    intro n
    obtain ⟨k1, k2⟩ := sameBits_all h hx hy
    simp only [Instr.sameBits, Bool.and_eq_true, beq_iff_eq]
    exact ⟨by simpa using k1.symm, k2 n⟩
  have := this 9999
  simp [Instr.keyThatStays, this]

theorem frz_map {np : Nat} {d : D} {id : Nat} {kvs : List (D × D)} {ex : Bool} (h : frz np M d id = some (.map kvs ex)) : True := trivial

theorem mapUpdate_ok (hM : MemOk F g M w) {t : TypeId} {m k v : D} {um uk uv : Value} (hm : Tv g (Ok F g M w) w m um) (hk : Tv g (Ok F g M w) w k uk) (hv : Tv g (Ok F g M w) w v uv) (h : semMapUpdate P F.np t m k v M nx) :
    ∃ w', (Instr.mapUpdate t um uk uv).run P w = .ok () w' ∧ SR F g M w nx undef w' := by
  unfold semMapUpdate at h
  split at h
  · rename_i id kt et hkv
    obtain ⟨hko, h⟩ := h
    have hu := kvT_spec hkv
    cases k <;> simp only [keyOk] at hko
    rename_i ds
    obtain ⟨f1, f2⟩ := frz_ok hM v
    split at h
    · rename_i kvs v' hmi hv'
      split at h
      · rename_i kvs' hset
        cases hm.cell rfl with
        | c _ _ hh => cases hh
        | mp _ gi hg =>
          obtain ⟨gi', hg', hlv, _, es, h4, h5, h6⟩ := f1.ent id _ hmi
          rw [hg] at hg'; cases hg'
          obtain ⟨xs, rfl, hxs⟩ := hk.aggV fun d hd => (ckOk_plain hko d hd).1
          have hch := run_check_agg hko hxs false 9998 w
          have hfk := run_findKey_eq (P := P) w (ckOk_wide hko) (.agg xs) es.toList
          have hval := fzV_ok f1 (hv.mono f2) hv'
          have hkey : ∀ {A : Nat → Prop} {w : World}, Rv A w (.agg ds) (.agg xs) := by
            intro A w
            refine .agg _ _ (by rw [← hxs]; simp) fun i d u hd hu => ?_
            have := congrArg (·[i]?) hxs
            simp only [List.getElem?_map, Array.getElem?_toList, hu, Option.map_some] at this
            rw [hd] at this; cases this
            have hp := (ckOk_plain hko _ (List.mem_of_getElem? hd)).2
            have hp' := (hk.plain (g' := fun _ => none) (A' := A) (w' := w) (by simp only [plainD, List.all_eq_true]; exact fun d hd => (ckOk_plain hko d hd).2))
            cases hp' with
            | c _ _ h => cases h with | c _ _ h => cases h
            | agg _ us hl hr => exact hr i _ u hd hu
          -- a new state of the map
          have turn : ∀ es' : Array MapEntry, (∀ (i : Nat) e, es'[i]? = some e → e.born = i) →
              (∀ A w', (∀ b, Ok F g (frz F.np M v) w b → A b ∧ w'.heap[b]? = w.heap[b]?) → EntsOk A w' kvs' es'.toList) → SR F g M w nx undef { w with heap := w.heap.setIfInBounds gi.blk (.map es' es'.size) } := by
            intro es' hb hE
            have hs := MapKept.heap_set (o' := .map es' es'.size) h4
            obtain ⟨k1, k2⟩ := f1.modify (e' := .map kvs' true) hmi rfl hg hlv (w' := { w with heap := w.heap.setIfInBounds gi.blk (.map es' es'.size) })
              (fun b hb => hs.2 b hb) (by simp) rfl rfl rfl rfl (fun hL => ⟨hlv, fun h => by simp at h, es', hs.1, hb, hE _ _ hL.A⟩)
            exact SR.then f1 f2 ⟨.junk, _, g, h, k1, k2, .junk _⟩
          have hrun : (Instr.mapUpdate t (.map (some gi.blk)) (.agg xs) uv).run P w = ((Instr.findKey kt (.agg xs) es.toList).run P w).andThen fun r w => (match r with
              | some (i, _) => do
                let key ← Instr.keyThatStays (((es[i]?).map (·.key)).getD (.agg xs)) (.agg xs)
                setObj gi.blk (.map (es.modify i fun e => { e with key, val := uv }) es.size)
              | none => setObj gi.blk (.map (es.push { key := .agg xs, val := uv, born := es.size }) (es.size + 1)) : Sem Unit).run P w := by
            simp only [Instr.mapUpdate, Sem.run_bind, run_underlying hu, Result.andThen_ok, MapKept.run_getObj_map h4, hch]
            congr 1
          unfold setK at hset
          split at hset
          · rename_i i v0 hf
            cases hset
            rcases run_findAsking' (P := P) hko hxs kvs es.toList 0 _ h6 hf with ⟨h7, _⟩ | ⟨j, v1, e, ks, h7, h8, h9, h10, h11⟩
            · cases h7
            · simp only [Nat.zero_add, Option.some.injEq, Prod.mk.injEq] at h7
              obtain ⟨rfl, rfl⟩ := h7
              have h9' : es[i]? = some e := by simpa using h9
              obtain ⟨us, hus1, hus2⟩ := (h6.2 i _ e h8 h9).1.aggV (eqCells_v h10).2
              have hks := keyStays (P := P) (w := w) h10 hxs hus2
              have hsz : (es.modify i fun e => { e with key := .agg xs, val := uv }).size = es.size := by simp
              refine ⟨_, ?_, turn (es.modify i fun e => { e with key := .agg xs, val := uv }) (fun q e' hq => ?_) (fun A w' hA => ⟨?_, fun q kv e' hq he => ?_⟩)⟩
              · rw [hrun, hfk, h11]
                simp only [Result.andThen_ok, Nat.zero_add, Sem.run_bind, h9', Option.map_some, Option.getD_some, hus1, hks, MapKept.run_setObj_map _ h4, hsz]
              · rw [Array.getElem?_modify] at hq
                split at hq
                · rename_i hqi; subst hqi
                  obtain ⟨e0, he0, rfl⟩ := Option.map_eq_some_iff.1 hq
                  exact h5 i e0 he0
                · exact h5 q e' hq
              · simp [h6.1]
              · rw [List.getElem?_set] at hq
                simp only [Array.getElem?_toList, Array.getElem?_modify] at he
                split at hq
                · rename_i hqi; subst hqi
                  simp only [if_true] at he
                  obtain ⟨e0, he0, rfl⟩ := Option.map_eq_some_iff.1 he
                  split at hq
                  · cases hq
                    exact ⟨hkey, hval.world hA⟩
                  · cases hq
                · rename_i hqi
                  rw [if_neg hqi] at he
                  have := h6.2 q kv e' hq (by simpa using he)
                  exact ⟨this.1.world hA, this.2.world hA⟩
          · rename_i hf
            cases hset
            rcases run_findAsking' (P := P) hko hxs kvs es.toList 0 _ h6 hf with ⟨_, h8⟩ | ⟨j, v1, e, ks, h7, _⟩
            · refine ⟨_, ?_, turn (es.push { key := .agg xs, val := uv, born := es.size }) (fun q e' hq => ?_) (fun A w' hA => ⟨by simp [h6.1], fun q kv e' hq he => ?_⟩)⟩
              · rw [hrun, hfk, h8]
                simp only [Result.andThen_ok, MapKept.run_setObj_map _ h4, Array.size_push]
              · rw [Array.getElem?_push] at hq
                split at hq
                · rename_i hqi; cases hq; exact hqi.symm
                · exact h5 q e' hq
              · have hlen : es.size = kvs.length := by simpa using h6.1
                simp only [Array.getElem?_toList, Array.getElem?_push] at he
                split at he
                · rename_i hqi; cases he
                  rw [List.getElem?_append_right (by omega)] at hq
                  have : q - kvs.length = 0 := by omega
                  rw [this] at hq
                  simp at hq; subst hq
                  exact ⟨hkey, hval.world hA⟩
                · rename_i hqi
                  have hlt : q < es.size := by
                    rcases Nat.lt_or_ge q es.size with h | h
                    · exact h
                    · simp [Array.getElem?_eq_none h] at he
                  rw [List.getElem?_append_left (by omega)] at hq
                  have := h6.2 q kv e' hq (by simpa using he)
                  exact ⟨this.1.world hA, this.2.world hA⟩
            · cases h7
          · cases hset
      · exact h.elim
    · exact h.elim
  · exact h.elim

theorem range_ok (hM : MemOk F g M w) {t : TypeId} {m : D} {u : Value} {fid : Nat} (hm : Tv g (Ok F g M w) w m u) (h : semRange P F.np t m M fid nx) :
    ∃ v w', (Instr.range t u).run P w = .ok v w' ∧ SR F g M w nx v w' := by
  unfold semRange at h
  split at h
  · rename_i id
    obtain ⟨hkv, hf, hnp, h⟩ := h
    obtain ⟨⟨k, e⟩, hkv⟩ := Option.isSome_iff_exists.1 hkv
    split at h
    · rename_i kvs ex hmi
      cases hm.cell rfl with
      | c _ _ hh => cases hh
      | mp _ gi hg =>
        have hne : fid ≠ id := fun he => by subst he; rw [hf] at hmi; cases hmi
        -- the map is frozen
        have fr : MemOk F g (upd M id (some (.map kvs false))) w ∧ Le g (Ok F g M w) w g (Ok F g (upd M id (some (.map kvs false))) w) w := by
          refine hM.calm hmi rfl fun gi' hg' hL => ?_
          rw [hg] at hg'; cases hg'
          obtain ⟨gi', hg', hlv, hA, es, h4, h5, h6⟩ := hM.ent id _ hmi
          rw [hg] at hg'; cases hg'
          refine ⟨hlv, fun _ => ?_, es, h4, h5, h6.mono hL.A⟩
          cases ex with
          | false => exact (hL.A _ (hA rfl)).1
          | true =>
            have hlo := hM.lo id _ gi hmi rfl hg hlv
            refine ⟨hlo.1, fun hlt => ?_, fun id' e gi2 hm2 hx hg2 hl2 hbe => ?_⟩
            · have := hM.hi id _ gi hnp hmi rfl hg hlv; unfold Fr.B at hlt this; omega
            · by_cases hid : id' = id
              · subst hid; simp only [upd_same, Option.some.injEq] at hm2; subst hm2; simp [Ent.ex] at hx
              · simp only [upd, hid, if_false] at hm2
                exact hM.inj id' id e _ gi2 gi hid hm2 hmi hx rfl hg2 hg hl2 hlv hbe
        obtain ⟨f1, f2⟩ := fr
        obtain ⟨gi', hg', hlv, hA, es, h4, h5, h6⟩ := f1.ent id _ (upd_same _ _ _)
        rw [hg] at hg'; cases hg'
        obtain ⟨k1, k2⟩ := f1.alloc (f := fid) (by rw [upd_ne _ _ hne]; exact hf) (.mapIter (some gi.blk) es.size #[] es.size) (.iter kvs none) ⟨w.heap.size, 0, 0, 0, true⟩ rfl
          (fun hL => ⟨rfl, gi.blk, es, #[], (hL.A _ (hA rfl)).1, (hL.A _ (hA rfl)).2.trans h4, h5, by simp, by
            have e : (leftOf es #[]).toList = es.toList := by
              simp only [leftOf, Array.toList_filter]
              exact List.filter_eq_self.2 fun x _ => by simp
            rw [e]; exact h6.mono hL.A, by simp⟩)
        exact ⟨_, _, run_range_map w t k e gi.blk es es.size (kvT_spec hkv) h4, SR.then f1 f2 ⟨_, _, _, h, k1, k2, .c _ _ (.it fid ⟨w.heap.size, 0, 0, 0, true⟩ (by simp))⟩⟩
    · exact h.elim
  · exact h.elim

theorem born_nodup {es : Array MapEntry} (hb : ∀ (i : Nat) e, es[i]? = some e → e.born = i) : (es.toList.map (·.born)).Nodup := by
  have : es.toList.map (·.born) = List.range es.size := by
    apply List.ext_getElem?
    intro i
    rcases Nat.lt_or_ge i es.size with h | h
    · have h1 : es[i]? = some es[i] := Array.getElem?_eq_getElem h
      simp only [List.getElem?_map, Array.getElem?_toList, h1, Option.map_some, hb _ _ h1]
      simp [h]
    · rw [List.getElem?_eq_none (by simpa using h), List.getElem?_eq_none (by simpa using h)]
  rw [this]
  exact List.nodup_range

theorem left_push {es : Array MapEntry} (hb : ∀ (i : Nat) e, es[i]? = some e → e.born = i) {seen : Array Nat} {j : Nat} {e : MapEntry} (hj : (leftOf es seen).toList[j]? = some e) :
    (leftOf es (seen.push e.born)).toList = (leftOf es seen).toList.eraseIdx j := by
  have hl : ∀ s, (leftOf es s).toList = es.toList.filter fun x => !s.contains x.born := fun s => by simp [leftOf]
  rw [hl] at hj ⊢
  rw [hl]
  have hnd : (es.toList.map (·.born)).Nodup := by
    exact born_nodup hb
  have hf : es.toList.filter (fun x => !(seen.push e.born).contains x.born) = (es.toList.filter fun x => !seen.contains x.born).filter fun x => x.born != e.born := by
    rw [List.filter_filter]
    congr 1
    funext x
    rw [contains_push]
    cases seen.contains x.born <;> cases h : (x.born == e.born) <;> simp_all
  rw [hf]
  have hnd' : ((es.toList.filter fun x => !seen.contains x.born).map (·.born)).Nodup := hnd.sublist (List.filter_sublist.map _)
  generalize es.toList.filter (fun x => !seen.contains x.born) = l at hj hnd'
  clear hf hnd hl hb
  induction l generalizing j with
  | nil => simp at hj
  | cons x l ih =>
    rw [List.map_cons, List.nodup_cons] at hnd'
    cases j with
    | zero =>
      simp at hj; subst hj
      simp only [List.filter_cons, bne_self_eq_false, Bool.false_eq_true, if_false, List.eraseIdx_cons_zero]
      rw [List.filter_eq_self]
      intro y hy
      simp only [bne_iff_ne, ne_eq]
      intro he
      exact hnd'.1 (by rw [← he]; exact List.mem_map.2 ⟨y, hy, rfl⟩)
    | succ j =>
      have hj' : l[j]? = some e := by simpa using hj
      have hx : x.born ≠ e.born := fun he => hnd'.1 (by rw [he]; exact List.mem_map.2 ⟨e, List.mem_of_getElem? hj', rfl⟩)
      simp only [List.filter_cons, bne_iff_ne, ne_eq, hx, not_false_eq_true, if_true, List.eraseIdx_cons_succ]
      rw [ih hj' hnd'.2]

theorem tup2 {A : Nat → Prop} {k v : D} {x y : Value} (h1 : Rv A w k x) (h2 : Rv A w v y) : Tv g A w (.tup [k, v]) (.tuple #[x, y]) := by
  refine .tup _ _ rfl fun i d' u' hd hu => ?_
  match i with
  | 0 => simp at hd hu; subst hd; subst hu; exact h1.noId
  | 1 => simp at hd hu; subst hd; subst hu; exact h2.noId
  | i + 2 => simp at hd
theorem tup3 {A : Nat → Prop} {k v : D} {b : Bool} {x y : Value} (h1 : Rv A w k x) (h2 : Rv A w v y) : Tv g A w (.tup [.v (.bool b), k, v]) (.tuple #[.bool b, x, y]) := by
  refine .tup _ _ rfl fun i d' u' hd hu => ?_
  match i with
  | 0 => simp at hd hu; subst hd; subst hu; exact .c _ _ (.c _ _ (.v _ rfl))
  | 1 => simp at hd hu; subst hd; subst hu; exact h1.noId
  | 2 => simp at hd hu; subst hd; subst hu; exact h2.noId
  | i + 3 => simp at hd

theorem next_ok (hM : MemOk F g M w) {ty : TypeId} {it : D} {u : Value} {s : Bool} (hi : Tv g (Ok F g M w) w it u) (h : semNext s it M nx) :
    ∃ v w', (Instr.next u s ty).run P w = .ok v w' ∧ SR F g M w nx v w' := by
  unfold semNext at h
  split at h
  · rename_i id
    obtain ⟨rfl, h⟩ := h
    split at h
    · rename_i left last hmi
      obtain ⟨h0, h1⟩ := h
      cases hi.cell rfl with
      | c _ _ hh => cases hh
      | it _ gi hg =>
        obtain ⟨gi', hg', hlv, mb, es, seen, q1, q2, q3, q4, q5, q6⟩ := hM.ent id _ hmi
        rw [hg] at hg'; cases hg'
        have hborn : ∀ x ∈ es.toList, x.born < es.size := by
          intro x hx
          obtain ⟨i, hi⟩ := List.getElem?_of_mem hx
          have hi' : es[i]? = some x := by simpa using hi
          rw [q3 i x hi']
          exact (Array.getElem?_eq_some_iff.1 hi').1
        rcases run_next_at (P := P) w ty gi.blk mb es.size es.size seen es es.size q4 q2 hborn (Nat.le_refl _) with ⟨hz, hrun⟩ | ⟨e, he, w1, hal, hrun⟩
        · have hnil : left = [] := by
            have := q5.1
            rw [Array.length_toList, hz] at this
            exact List.eq_nil_of_length_eq_zero this.symm
          refine ⟨_, w, hrun, SR.plain hM (h0 hnil) (.tup _ _ rfl fun i d' u' hd hu => ?_)⟩
          match i with
          | 0 => simp at hd hu; subst hd; subst hu; exact .c _ _ (.c _ _ (.v _ rfl))
          | i + 1 => simp at hd
        · obtain ⟨j, hj⟩ := List.getElem?_of_mem he
          have hjl : j < left.length := by
            rw [← q5.1]
            rcases Nat.lt_or_ge j (leftOf es seen).toList.length with h | h
            · exact h
            · simp [List.getElem?_eq_none h] at hj
          have hk : left[j]? = some left[j] := List.getElem?_eq_getElem hjl
          obtain ⟨r1, r2⟩ := q5.2 j _ e hk hj
          have hnx := h1 j left[j].1 left[j].2 hk
          obtain ⟨d1, d2⟩ : MemOk F g M w1 ∧ Le g (Ok F g M w) w g (Ok F g M w1) w1 := by
            rcases hal with rfl | rfl
            · exact ⟨hM, Le.refl _ _ _⟩
            · exact hM.same rfl rfl rfl rfl
          have q4' : w1.heap[gi.blk]? = some (.mapIter (some mb) es.size seen es.size) := by rcases hal with rfl | rfl <;> exact q4
          have hs := MapKept.heap_set (o' := .mapIter (some mb) es.size (seen.push e.born) es.size) q4'
          obtain ⟨k1, k2⟩ := d1.modify (e' := .iter (left.eraseIdx j) (some left[j])) hmi rfl hg hlv (w' := setBlock w1 gi.blk (.mapIter (some mb) es.size (seen.push e.born) es.size))
            (fun b hb => hs.2 b hb) (by simp [setBlock]) rfl rfl rfl rfl (fun hL => by
              have hA : ∀ b, Ok F g M w b → Ok F g (upd M id (some (.iter (left.eraseIdx j) (some left[j])))) (setBlock w1 gi.blk (.mapIter (some mb) es.size (seen.push e.born) es.size)) b ∧ (setBlock w1 gi.blk (.mapIter (some mb) es.size (seen.push e.born) es.size)).heap[b]? = w.heap[b]? :=
                fun b hb => ⟨(hL.A b (d2.A b hb).1).1, (hL.A b (d2.A b hb).1).2.trans (d2.A b hb).2⟩
              refine ⟨hlv, mb, es, seen.push e.born, (hA _ q1).1, (hA _ q1).2.trans q2, q3, hs.1, ⟨?_, fun i kv e' a b => ?_⟩, fun kv hkv => ?_⟩
              · rw [left_push q3 hj, List.length_eraseIdx, List.length_eraseIdx, q5.1]
              · rw [left_push q3 hj, List.getElem?_eraseIdx] at b
                rw [List.getElem?_eraseIdx] at a
                split at a
                · rename_i hlt; rw [if_pos hlt] at b
                  have := q5.2 i kv e' a b
                  exact ⟨this.1.world hA, this.2.world hA⟩
                · rename_i hlt; rw [if_neg hlt] at b
                  have := q5.2 (i + 1) kv e' a b
                  exact ⟨this.1.world hA, this.2.world hA⟩
              · cases hkv
                exact ⟨seen, e, rfl, (mem_left he).1, r1.world hA, r2.world hA⟩)
          have hA : ∀ b, Ok F g M w b → Ok F g (upd M id (some (.iter (left.eraseIdx j) (some left[j])))) (setBlock w1 gi.blk (.mapIter (some mb) es.size (seen.push e.born) es.size)) b ∧ (setBlock w1 gi.blk (.mapIter (some mb) es.size (seen.push e.born) es.size)).heap[b]? = w.heap[b]? :=
            fun b hb => ⟨(k2.A b (d2.A b hb).1).1, (k2.A b (d2.A b hb).1).2.trans (d2.A b hb).2⟩
          exact ⟨_, _, hrun, SR.then d1 d2 ⟨_, _, g, hnx, k1, k2, tup3 (r1.world hA) (r2.world hA)⟩⟩
    · exact h.elim
  · exact h.elim

theorem entry_ok (hM : MemOk F g M w) {it : D} {u : Value} (hi : Tv g (Ok F g M w) w it u) (h : semEntry it M nx) :
    ∃ v w', (Instr.entry u).run P w = .ok v w' ∧ SR F g M w nx v w' := by
  unfold semEntry at h
  split at h
  · rename_i id
    split at h
    · rename_i left k v hmi
      cases hi.cell rfl with
      | c _ _ hh => cases hh
      | it _ gi hg =>
        obtain ⟨gi', hg', hlv, mb, es, seen, q1, q2, q3, q4, q5, q6⟩ := hM.ent id _ hmi
        rw [hg] at hg'; cases hg'
        obtain ⟨s0, e, rfl, r1, r2, r3⟩ := q6 _ rfl
        have hnd : (es.toList.map (·.born)).Nodup := by
          exact born_nodup q3
        exact ⟨_, w, run_entry_at w gi.blk mb es.size s0 es es.size e q4 q2 r1 hnd, SR.plain hM h (tup2 r2 r3)⟩
    · exact h.elim
  · exact h.elim
end

end Go.Abs
