/- The abstract machine, sixth part: the other operations. -/
import Derived.Test.YtgihcmeifafnjaaCAbsE
import Derived.Deep.AppendSrc
import Derived.Great.FillDense
import Derived.Laws.CopyRow
set_option linter.unusedVariables false
set_option linter.unusedSimpArgs false
namespace Go.Abs
open Go

/-! ## Operations on plain values -/
def intOp (op : BinOp) (k : IntKind) (a b : Int) : Option Value :=
  match op with
  | .add => some (.int k (k.wrap (a + b)))
  | .sub => some (.int k (k.wrap (a - b)))
  | .mul => some (.int k (k.wrap (a * b)))
  | .eql => some (.bool (a == b))
  | .neq => some (.bool (a != b))
  | .lss => some (.bool (decide (a < b)))
  | .leq => some (.bool (decide (a ≤ b)))
  | .gtr => some (.bool (decide (a > b)))
  | .geq => some (.bool (decide (a ≥ b)))
  | _ => none

def isBoolT (P : Program) (t : TypeId) : Bool := match P.underlying t with | some .bool => true | _ => false

/-- Two plain values. -/
def semBinV (P : Program) (op : BinOp) (t : TypeId) (x y : Value) (M : Mem) (nx : D → Mem → Prop) : Prop :=
  match op, x, y with
  | .rem, .int k a, .int k' b => k = k' ∧ b ≠ 0 ∧ nx (.v (.int k (a.tmod b))) M
  | .quo, .int k a, .int k' b => k = k' ∧ b ≠ 0 ∧ nx (.v (.int k (k.wrap (a.tdiv b)))) M
  | .shl, .int k a, .int _ b => 0 ≤ b ∧ nx (.v (.int k (k.wrap (a * 2 ^ (min b.toNat k.bits))))) M
  | .shr, .int k a, .int _ b => 0 ≤ b ∧ nx (.v (.int k (a.fdiv (2 ^ (min b.toNat k.bits))))) M
  | op, .int k a, .int k' b => k = k' ∧ match intOp op k a b with
    | some v => nx (.v v) M
    | none => False
  | .eql, .bool a, .bool b => isBoolT P t = true ∧ nx (.v (.bool (a == b))) M
  | .neq, .bool a, .bool b => isBoolT P t = true ∧ nx (.v (.bool (!(a == b)))) M
  | .eql, .string a, .string b => nx (.v (.bool (a.toList == b.toList))) M
  | .neq, .string a, .string b => nx (.v (.bool (!(a.toList == b.toList)))) M
  | .add, .string a, .string b => (a.size + b.size : Nat) ≤ 9223372036854775807 ∧ nx (.v (.string (a ++ b))) M
  | _, _, _ => False

theorem run_equal_bool {P : Program} {t : TypeId} (h : P.underlying t = some .bool) (a b : Bool) (w : World) : (Op.equal t (.bool a) (.bool b)).run P w = .ok (a == b) w := by
  have key : ∀ d, (Op.equalIn (d + 1) t (.bool a) (.bool b)).run P w = .ok (a == b) w := by
    intro d
    simp [Op.equalIn, run_underlying h]
  exact key 9999

theorem binV_ok {P : Program} {F : Fr} {g M w nx} (hM : MemOk F g M w) {op : BinOp} {t : TypeId} {xo yo : Operand} {x y : Value} (h : semBinV P op t x y M nx) :
    ∃ v w', (do eqGuard op t xo yo x y; binOp op t x y : Sem Value).run P w = .ok v w' ∧ SR F g M w nx v w' := by
  have hb : ∀ {v : Value}, flat v = true → nx (.v v) M → SR F g M w nx v w := fun hf hn => SR.plain hM hn (.c _ _ (.c _ _ (.v _ hf)))
  have hboolT : isBoolT P t = true → P.underlying t = some .bool := by
    intro h; unfold isBoolT at h; split at h <;> simp_all
  unfold semBinV at h
  split at h
  · obtain ⟨rfl, h0, hn⟩ := h
    exact ⟨_, _, by simp [eqGuard, binOp, Op.intDiv, h0], hb rfl hn⟩
  · obtain ⟨rfl, h0, hn⟩ := h
    exact ⟨_, _, by simp [eqGuard, binOp, Op.intDiv, h0], hb rfl hn⟩
  · rename_i k a k' b
    obtain ⟨h0, hn⟩ := h
    have h1 : ¬ b < 0 := by omega
    exact ⟨_, _, by simp [eqGuard, binOp, Op.shift, h1], hb rfl hn⟩
  · rename_i k a k' b
    obtain ⟨h0, hn⟩ := h
    have h1 : ¬ b < 0 := by omega
    exact ⟨_, _, by simp [eqGuard, binOp, Op.shift, h1], hb rfl hn⟩
  · obtain ⟨rfl, h⟩ := h
    split at h
    · rename_i v hv
      unfold intOp at hv
      split at hv <;> simp only [Option.some.injEq, reduceCtorEq] at hv <;> subst hv <;>
        exact ⟨_, _, by simp [eqGuard, binOp, Op.intArith, Op.intCmp], hb rfl h⟩
    · exact h.elim
  · obtain ⟨h0, hn⟩ := h
    exact ⟨_, _, by simp [eqGuard, binOp, run_equal_bool (hboolT h0)], hb rfl hn⟩
  · obtain ⟨h0, hn⟩ := h
    exact ⟨_, _, by simp only [eqGuard, binOp]; simp [run_equal_bool (hboolT h0)], hb rfl hn⟩
  · exact ⟨_, _, by simp [eqGuard, binOp, Op.stringOp], hb rfl h⟩
  · exact ⟨_, _, by simp [eqGuard, binOp, Op.stringOp], hb rfl h⟩
  · rename_i a b
    obtain ⟨h0, hn⟩ := h
    have hm : IntKind.i64.max = 9223372036854775807 := by decide
    refine ⟨.string (a ++ b), w, ?_, hb rfl hn⟩
    have h1 : ¬ ((9223372036854775807 : Int) < (a.size : Int) + (b.size : Int)) := by omega
    simp [eqGuard, binOp, Op.stringOp, hm, h1]
  · exact h.elim

def semUn (op : UnOp) (x : D) (M : Mem) (nx : D → Mem → Prop) : Prop :=
  match op, x with
  | .not, .v (.bool b) => nx (.v (.bool (!b))) M
  | .neg, .v (.int k n) => nx (.v (.int k (k.wrap (0 - n)))) M
  | _, _ => False

theorem un_ok {P : Program} {F : Fr} {g M w nx} (hM : MemOk F g M w) {op : UnOp} {x : D} {u : Value} (hx : Tv g (Ok F g M w) w x u) (h : semUn op x M nx) :
    ∃ v w', (Op.unary op u).run P w = .ok v w' ∧ SR F g M w nx v w' := by
  have hb : ∀ {v : Value}, flat v = true → nx (.v v) M → SR F g M w nx v w := fun hf hn => SR.plain hM hn (.c _ _ (.c _ _ (.v _ hf)))
  unfold semUn at h
  split at h
  · cases hx.cell rfl with
    | c _ _ hr => cases hr with
      | v => exact ⟨_, _, by simp [Op.unary], hb rfl h⟩
  · cases hx.cell rfl with
    | c _ _ hr => cases hr with
      | v => exact ⟨_, _, by simp only [Op.unary, Op.intArith]; rfl, hb rfl h⟩
  · exact h.elim

/-- An int made another int. -/
def semConv (P : Program) (src dst : TypeId) (x : D) (M : Mem) (nx : D → Mem → Prop) : Prop :=
  match inT P dst, x with
  | some k, .v (.int _ n) => (P.underlying src).isSome = true ∧ nx (.v (.int k (k.wrap n))) M
  | _, _ => False

theorem conv_ok {P : Program} {F : Fr} {g M w nx} (hM : MemOk F g M w) {src dst : TypeId} {x : D} {u : Value} (hx : Tv g (Ok F g M w) w x u) (h : semConv P src dst x M nx) :
    ∃ v w', (convert src dst u).run P w = .ok v w' ∧ SR F g M w nx v w' := by
  unfold semConv at h
  split at h
  · rename_i k kk n hk
    obtain ⟨hs, hn⟩ := h
    cases hx.cell rfl with
    | c _ _ hr => cases hr with
      | v =>
        have hd : P.underlying dst = some (.int k) := by unfold inT at hk; split at hk <;> simp_all
        obtain ⟨ds, hs⟩ := Option.isSome_iff_exists.1 hs
        refine ⟨_, _, ?_, SR.plain hM hn (.c _ _ (.c _ _ (.v _ rfl)))⟩
        simp [convert, underlying, hs, hd, Conv.intToInt]
  · exact h.elim

def semExtract (t : D) (i : Nat) (M : Mem) (nx : D → Mem → Prop) : Prop :=
  match t with
  | .tup ds => match ds[i]? with
    | some d => nx d M
    | none => False
  | _ => False

theorem extract_ok {P : Program} {F : Fr} {g M w nx} (hM : MemOk F g M w) {i : Nat} {x : D} {u : Value} (hx : Tv g (Ok F g M w) w x u) (h : semExtract x i M nx) :
    ∃ v w', (Instr.extract u i).run P w = .ok v w' ∧ SR F g M w nx v w' := by
  unfold semExtract at h
  split at h
  · rename_i ds
    split at h
    · rename_i d hd
      cases hx with
      | c _ _ h => cases h with | c _ _ h => cases h
      | tup _ us hl hr =>
        have hlt : i < us.size := by
          rw [hl]
          rcases Nat.lt_or_ge i ds.length with h | h
          · exact h
          · simp [List.getElem?_eq_none h] at hd
        refine ⟨us[i], w, ?_, SR.plain hM h (hr i d _ hd (Array.getElem?_eq_getElem hlt))⟩
        simp [Instr.extract, hlt]
    · exact h.elim
  · exact h.elim

def semNil (x : D) (M : Mem) (nx : D → Mem → Prop) : Prop :=
  match x with
  | .box id off => nx x M
  | .elt id i off => nx x M
  | .rp sz es i off => nx x M
  | .fn f a b => nx x M
  | _ => False

def semMakeFunc (fn : Fn) (first caps : List D) (M : Mem) (nx : D → Mem → Prop) : Prop :=
  match fn with
  | .func f => first.all isCell = true ∧ caps.all isCell = true ∧ nx (.fn f first caps) M
  | _ => False

/-! ## Fields -/
theorem foT_spec {P : Program} {t : TypeId} {f fo : Nat} {ft : TypeId} (h : foT P t f = some (fo, ft)) : ∃ fs x, P.underlying t = some (.struct fs) ∧ fs[f]? = some x ∧ x.offset = fo ∧ x.type = ft := by
  unfold foT at h
  split at h
  · rename_i fs hs
    cases hx : fs[f]? with
    | none => simp [hx] at h
    | some x => simp [hx] at h; exact ⟨fs, x, hs, hx, h.1, h.2⟩
  · simp at h

theorem fieldAddr_ok {P : Program} {F : Fr} {g M w nx} (hM : MemOk F g M w) {t : TypeId} {f : Nat} {p : D} {u : Value} (hp : Tv g (Ok F g M w) w p u) (h : semFieldAddr P t p f M nx) :
    ∃ v w', (Instr.fieldAt t u f).run P w = .ok v w' ∧ SR F g M w nx v w' := by
  unfold semFieldAddr at h
  split at h
  · rename_i fo ft hfo
    obtain ⟨hsz, h⟩ := h
    obtain ⟨fs, x, hs, hx, rfl, rfl⟩ := foT_spec hfo
    obtain ⟨n, hn⟩ : ∃ n, szT P x.type = some (n + 1) := by
      split at hsz
      · rename_i n hn; exact ⟨n, hn⟩
      · exact hsz.elim
    have hrun : ∀ b o : Nat, (Instr.fieldAt t (.pointer (some ⟨b, o, none⟩)) f).run P w = .ok (.pointer (some ⟨b, o + x.offset, none⟩)) w := by
      intro b o
      simp [Instr.fieldAt, underlying, hs, hx, Instr.sureAddr, fieldPlace, run_sizeOf' hn, addp]
    split at h
    · cases hp.cell rfl with
      | c _ _ h => cases h
      | box _ _ gi hg => exact ⟨_, _, hrun _ _, SR.plain hM h (.c _ _ (.box _ _ gi hg))⟩
    · cases hp.cell rfl with
      | c _ _ h => cases h
      | elt _ _ _ gi hg hi => exact ⟨_, _, hrun _ _, SR.plain hM h (.c _ _ (by rw [Nat.add_assoc]; exact .elt _ _ _ gi hg hi))⟩
    · cases hp.cell rfl with
      | c _ _ hr => cases hr with
        | rp _ _ _ _ b o X h1 h2 h3 h4 h5 => exact ⟨_, _, hrun _ _, SR.plain hM h (.c _ _ (.c _ _ (by rw [Nat.add_assoc]; exact .rp _ _ _ _ b o X h1 h2 h3 h4 h5)))⟩
    · exact h.elim
  · exact h.elim

theorem field_ok {P : Program} {F : Fr} {g M w nx} (hM : MemOk F g M w) {t : TypeId} {f : Nat} {d : D} {u : Value} (hp : Tv g (Ok F g M w) w d u) (h : semField P t d f M nx) :
    ∃ v w', (Instr.field t u f).run P w = .ok v w' ∧ SR F g M w nx v w' := by
  unfold semField at h
  split at h
  · rename_i fo ft cs hfo
    obtain ⟨fs, x, hs, hx, rfl, rfl⟩ := foT_spec hfo
    split at h
    · rename_i ag n hag hn
      cases hp with
      | c _ _ h => cases h with | c _ _ h => cases h
      | agg _ us hl hr =>
        unfold getCells at h
        cases ag with
        | true =>
          simp only [if_true] at h
          refine ⟨.agg (us.extract x.offset (x.offset + n)), w, ?_, SR.plain hM h.2 (.agg _ _ (by simp; omega) fun i d u hd hu => ?_)⟩
          · simp [Instr.field, underlying, hs, hx, part, run_isAgg' hag, run_sizeOf' hn, asAgg]
          · rw [List.getElem?_take] at hd
            split at hd
            · rename_i hi
              rw [List.getElem?_drop] at hd
              rw [Array.getElem?_extract] at hu
              split at hu
              · exact hr _ d u hd hu
              · simp at hu
            · simp at hd
        | false =>
          simp only [Bool.false_eq_true, if_false, getCell] at h
          split at h
          · rename_i y hy
            have hlt : x.offset < us.size := by
              rw [hl]
              rcases Nat.lt_or_ge x.offset cs.length with h | h
              · exact h
              · simp [List.getElem?_eq_none h] at hy
            refine ⟨us[x.offset], w, ?_, SR.plain hM h (.c _ _ (hr _ y _ hy (Array.getElem?_eq_getElem hlt)))⟩
            simp [Instr.field, underlying, hs, hx, part, run_isAgg' hag, asAgg, hlt]
          · exact h.elim
    · exact h.elim
  · exact h.elim

/-! ## Indexes -/
theorem elT_spec {P : Program} {t e : TypeId} (h : elT P t = some e) : P.underlying t = some (.slice e) := by
  unfold elT at h; split at h <;> simp_all
theorem arT_spec {P : Program} {t e : TypeId} {n : Nat} (h : arT P t = some (n, e)) : P.underlying t = some (.array n e) := by
  unfold arT at h; split at h <;> simp_all

theorem run_indexAt_slice {P : Program} {t e : TypeId} {s : Nat} (he : elT P t = some e) (hs : szT P e = some s) {b o len cap : Nat} {k : IntKind} {n : Int} (h0 : 0 ≤ n) (h1 : n < len) (w : World) :
    (Instr.indexAt t (.slice (some ⟨b, o, none⟩) len cap) (.int k n)).run P w = .ok (.pointer (some ⟨b, o + n.toNat * s, none⟩)) w := by
  simp [Instr.indexAt, asIntOf, underlying, elT_spec he, h0, h1, run_sizeOf' hs, addp]

theorem indexAddr_ok {P : Program} {F : Fr} {g M w nx} (hM : MemOk F g M w) {t : TypeId} {x i : D} {u v : Value} (hx : Tv g (Ok F g M w) w x u) (hi : Tv g (Ok F g M w) w i v)
    (h : semIndexAddr P t x i M nx) : ∃ v' w', (Instr.indexAt t u v).run P w = .ok v' w' ∧ SR F g M w nx v' w' := by
  unfold semIndexAddr at h
  split at h
  · rename_i k n
    cases hi.cell rfl with
    | c _ _ hr => cases hr with
      | v =>
        split at h
        · rename_i e q he
          split at h
          · rename_i s sz es hs
            obtain ⟨rfl, ⟨h0, h1⟩, hn⟩ := h
            cases hx.cell rfl with
            | c _ _ hr => cases hr with
              | sl _ _ a c X h2 h3 h4 h5 =>
                have hne : es ≠ [] := fun h => by subst h; simp at h1; omega
                obtain ⟨b, o, rfl, hb, hc⟩ := h4 hne
                refine ⟨_, _, run_indexAt_slice he hs h0 h1 w, SR.plain hM hn (.c _ _ (.c _ _ ?_))⟩
                have := Rc.rp (A := Ok F g M w) (w := w) s es n.toNat 0 b o X h3 (by omega) hb hc h5
                simpa using this
          · rename_i s id hs
            split at h
            · rename_i sz es ex hm
              obtain ⟨rfl, ⟨h0, h1⟩, hn⟩ := h
              cases hx.cell rfl with
              | c _ _ hr => cases hr
              | row _ gi a c hg hlc hcc ha =>
                obtain ⟨gi', hg', hE⟩ := hM.ent id _ hm
                rw [hg] at hg'; cases hg'
                have hl := hE.2.1
                have ha' : a = some ⟨gi.blk, 0, none⟩ := ha.resolve_left (by omega)
                subst ha'
                refine ⟨_, _, run_indexAt_slice he hs h0 (by omega) w, SR.plain hM hn (.c _ _ ?_)⟩
                have := Tc.elt (g := g) (A := Ok F g M w) (w := w) id n.toNat 0 gi hg (by omega)
                rw [hE.1] at this
                simpa using this
            · exact h.elim
          · rename_i s id off k' hs
            split at h
            · rename_i sz es ex hm
              obtain ⟨rfl, ⟨h0, h1⟩, hn⟩ := h
              cases hx.cell rfl with
              | c _ _ hr => cases hr
              | vw _ _ _ gi a c hg ho hkc ha =>
                obtain ⟨gi', hg', hE⟩ := hM.ent id _ hm
                rw [hg] at hg'; cases hg'
                have ha' : a = some ⟨gi.blk, off * gi.sz, none⟩ := ha.resolve_left (by omega)
                subst ha'
                refine ⟨_, _, run_indexAt_slice he hs h0 (by omega) w, SR.plain hM hn (.c _ _ ?_)⟩
                have := Tc.elt (g := g) (A := Ok F g M w) (w := w) id (off + n.toNat) 0 gi hg (by omega)
                rw [hE.1] at this ⊢
                simpa [Nat.add_mul] using this
            · exact h.elim
          · exact h.elim
        · rename_i len e hne he
          split at h
          · rename_i s hs
            obtain ⟨⟨h0, h1⟩, h⟩ := h
            have hrun : ∀ b o : Nat, (Instr.indexAt t (.pointer (some ⟨b, o, none⟩)) (.int k n)).run P w = .ok (.pointer (some ⟨b, o + n.toNat * s, none⟩)) w := by
              intro b o
              simp [Instr.indexAt, asIntOf, underlying, arT_spec he, Instr.sureAddr, h0, h1, run_sizeOf' hs, addp]
            split at h
            · cases hx.cell rfl with
              | c _ _ h => cases h
              | box _ _ gi hg => exact ⟨_, _, hrun _ _, SR.plain hM h (.c _ _ (.box _ _ gi hg))⟩
            · cases hx.cell rfl with
              | c _ _ h => cases h
              | elt _ _ _ gi hg hi => exact ⟨_, _, hrun _ _, SR.plain hM h (.c _ _ (by rw [Nat.add_assoc]; exact .elt _ _ _ gi hg hi))⟩
            · cases hx.cell rfl with
              | c _ _ hr => cases hr with
                | rp _ _ _ _ b o X h1 h2 h3 h4 h5 => exact ⟨_, _, hrun _ _, SR.plain hM h (.c _ _ (.c _ _ (by rw [Nat.add_assoc]; exact .rp _ _ _ _ b o X h1 h2 h3 h4 h5)))⟩
            · exact h.elim
          · exact h.elim
        · exact h.elim
  · exact h.elim

/-! ## Lengths, slices -/
def semLen (P : Program) (t : TypeId) (x : D) (M : Mem) (nx : D → Mem → Prop) : Prop :=
  match x with
  | .v (.string s) => (match P.underlying t with | some .string => True | _ => False) ∧ nx (.v (.int .i64 s.size)) M
  | .vw id off n => (elT P t).isSome = true ∧ nx (.v (.int .i64 n)) M
  | x => match rowsOf M x with
    | some (_, es) => (elT P t).isSome = true ∧ nx (.v (.int .i64 es.length)) M
    | none => False

theorem len_ok {P : Program} {F : Fr} {g M w nx} (hM : MemOk F g M w) {t ty : TypeId} {x : D} {u : Value} (hx : Tv g (Ok F g M w) w x u) (h : semLen P t x M nx) :
    ∃ v w', (Builtin.len_ #[t] ty #[u]).run P w = .ok v w' ∧ SR F g M w nx v w' := by
  have hb : ∀ {n : Int}, nx (.v (.int .i64 n)) M → SR F g M w nx (.int .i64 n) w := fun hn => SR.plain hM hn (.c _ _ (.c _ _ (.v _ rfl)))
  have hsl : ∀ {a : Option Addr} {n c : Nat}, (elT P t).isSome = true → (Builtin.len_ #[t] ty #[.slice a n c]).run P w = .ok (.int .i64 n) w := by
    intro a n c he
    obtain ⟨e, he⟩ := Option.isSome_iff_exists.1 he
    simp [Builtin.len_, underlying, elT_spec he, goInt]
  unfold semLen at h
  split at h
  · rename_i s
    obtain ⟨ht, hn⟩ := h
    have ht' : P.underlying t = some .string := by split at ht <;> simp_all
    cases hx.cell rfl with
    | c _ _ hr => cases hr with
      | v => exact ⟨_, _, by simp [Builtin.len_, underlying, ht', goInt], hb hn⟩
  · obtain ⟨ht, hn⟩ := h
    cases hx.cell rfl with
    | c _ _ hr => cases hr
    | vw _ _ _ gi a c hg ho hk ha => exact ⟨_, _, hsl ht, hb hn⟩
  · rename_i hns hvw
    split at h
    · rename_i sz es hes
      obtain ⟨ht, hn⟩ := h
      cases hx with
      | agg => simp [rowsOf] at hes
      | tup => simp [rowsOf] at hes
      | junk => simp [rowsOf] at hes
      | c _ _ h =>
        cases h with
        | c _ _ hr =>
          cases hr with
          | nils => simp [rowsOf] at hes; obtain ⟨rfl, rfl⟩ := hes; exact ⟨_, _, hsl ht, hb hn⟩
          | sl => simp [rowsOf] at hes; obtain ⟨rfl, rfl⟩ := hes; exact ⟨_, _, hsl ht, hb hn⟩
          | _ => simp [rowsOf] at hes
        | row id gi a c hg hlc hcc ha =>
          simp only [rowsOf] at hes
          split at hes
          · rename_i sz' es' ex hm
            simp at hes; obtain ⟨rfl, rfl⟩ := hes
            obtain ⟨gi', hg', hE⟩ := hM.ent id _ hm
            rw [hg] at hg'; cases hg'
            rw [hE.2.1]
            exact ⟨_, _, hsl ht, hb hn⟩
          · simp at hes
        | vw id off n => exact (hvw id off n rfl).elim
        | _ => simp [rowsOf] at hes
    · exact h.elim

end Go.Abs
