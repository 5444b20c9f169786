/- The abstract machine, eleventh part: every operation; regions; code. -/
import Derived.Test.YtgihcmeifafnjaaCAbsMp
set_option linter.unusedVariables false
set_option linter.unusedSimpArgs false
namespace Go.Abs
open Go

def semBin (P : Program) (op : BinOp) (t : TypeId) (x y : D) (M : Mem) (nx : D → Mem → Prop) : Prop :=
  match x, y with
  | .v a, .v b => semBinV P op t a b M nx
  | .agg ds, .agg es => ckOk P t ds es ∧ match op, eqCells ds es with
    | .eql, some b => nx (.v (.bool b)) M
    | .neq, some b => nx (.v (.bool (!b))) M
    | _, _ => False
  | _, _ => False

def mmD (mx : Bool) : D → List D → Option D
  | .v (.int k x), [] => some (.v (.int k x))
  | .v (.int k x), .v (.int _ y) :: l => mmD mx (.v (.int k (if mx then (if y > x then y else x) else (if y < x then y else x)))) l
  | _, _ => none
def semMM (mx : Bool) (ds : List D) (M : Mem) (nx : D → Mem → Prop) : Prop :=
  match ds with
  | d :: l => match mmD mx d l with
    | some r => nx r M
    | none => False
  | [] => False

def semBuiltin (P : Program) (np : Nat) (b : Builtin) (ds : List D) (ts : List TypeId) (M : Mem) (fid : Nat) (nx : D → Mem → Prop) : Prop :=
  match b, ds, ts with
  | .len, [x], [t] => semLen P t x M nx
  | .append, [s, x], [t, t2] => semAppend P np t t2 s x M fid nx
  | .min, ds, _ => semMM false ds M nx
  | .max, ds, _ => semMM true ds M nx
  | _, _, _ => False

/-- What an operation does to a state. -/
def sem (P : Program) (K : Kt) (np : Nat) (op : Op) (ρ : Operand → D) (M : Mem) (fid : Nat) (nx : D → Mem → Prop) : Prop :=
  match op with
  | .move x | .assign x => nx (ρ x) M
  | .pick c a b => semPick (ρ c) (ρ a) (ρ b) M nx
  | .alloc t => semAlloc P t M fid nx
  | .box t x => semBox (ρ x) M fid nx
  | .build t parts => semBuildT P t (partsD ρ parts) M nx
  | .buildSlice t len parts => semBuildSlice P np t len (partsD ρ parts) M fid nx
  | .load t a => semLoad P t (ρ a) M nx
  | .store t a x => semStore P np t (ρ a) (ρ x) M nx
  | .nilCheck x => semNil (ρ x) M nx
  | .binOp op t x y _ => semBin P op t (ρ x) (ρ y) M nx
  | .unOp op _ x => semUn op (ρ x) M nx
  | .convert s d x => semConv P s d (ρ x) M nx
  | .makeFunc fn f c => semMakeFunc fn (f.toList.map ρ) (c.toList.map ρ) M nx
  | .makeSlice t l c => semMakeSlice P t (ρ l) (ρ c) M fid nx
  | .slice t x lo hi none => semSlice P t (ρ x) (lo.map ρ) (hi.map ρ) M nx
  | .fieldAddr t x f => semFieldAddr P t (ρ x) f M nx
  | .field t x f => semField P t (ρ x) f M nx
  | .indexAddr t x i => semIndexAddr P t (ρ x) (ρ i) M nx
  | .index t x i => semIndex P t (ρ x) (ρ i) M nx
  | .extract t i => semExtract (ρ t) i M nx
  | .makeMap t none => semMakeMap M fid nx
  | .lookup t m k ok => semLookup P t (ρ m) (ρ k) ok M nx
  | .mapUpdate t m k x => semMapUpdate P np t (ρ m) (ρ k) (ρ x) M nx
  | .range t m => semRange P np t (ρ m) M fid nx
  | .next it s => semNext s (ρ it) M nx
  | .entry it => semEntry (ρ it) M nx
  | .call c => match c.callee with
    | .builtin b => semBuiltin P np b (c.args.toList.map ρ) c.argTypes.toList M fid nx
    | .value f => match ρ f with
      | .fn f first caps => semCall K np f (first ++ c.args.toList.map ρ ++ caps) M fid nx
      | _ => False
    | _ => False
  | _ => False

def OpRes (P : Program) (F : Fr) (g : Nat → Option GI) (M : Mem) (w : World) (nx : D → Mem → Prop) (r : Result Next) : Prop :=
  (∃ v w', r = .ok (.value v) w' ∧ SR F g M w nx v w') ∨ (∃ w', r = .ok .skip w' ∧ SR F g M w nx undef w') ∨
  ∃ f args, r = .ok (.enter f args) w ∧ Calls P f args w fun e w' => ∃ v, e = .returned v ∧ SR F g M w nx v w'

theorem OpRes.value {P : Program} {F : Fr} {g M w nx} {s : Sem Value} (h : ∃ v w', s.run P w = .ok v w' ∧ SR F g M w nx v w') : OpRes P F g M w nx ((do pure (.value (← s)) : Sem Next).run P w) := by
  obtain ⟨v, w', h1, h2⟩ := h
  exact .inl ⟨v, w', by simp [h1], h2⟩

theorem bin_ok {P : Program} {F : Fr} {g M w nx} (hM : MemOk F g M w) {op : BinOp} {t : TypeId} {xo yo : Operand} {x y : D} {u v : Value} (hx : Tv g (Ok F g M w) w x u) (hy : Tv g (Ok F g M w) w y v) (h : semBin P op t x y M nx) :
    ∃ v' w', (do eqGuard op t xo yo u v; binOp op t u v : Sem Value).run P w = .ok v' w' ∧ SR F g M w nx v' w' := by
  unfold semBin at h
  split at h
  · cases hx.cell rfl with
    | c _ _ hr => cases hr with
      | v => cases hy.cell rfl with
        | c _ _ hr => cases hr with
          | v => exact binV_ok hM h
  · rename_i ds es
    obtain ⟨hE, h⟩ := h
    cases hx with
    | c _ _ h => cases h with | c _ _ h => cases h
    | agg _ us hl hr => cases hy with
      | c _ _ h => cases h with | c _ _ h => cases h
      | agg _ vs hl' hr' =>
        have hb : ∀ {b : Bool}, nx (.v (.bool b)) M → SR F g M w nx (.bool b) w := fun hn => SR.plain hM hn (.c _ _ (.c _ _ (.v _ rfl)))
        split at h
        · rename_i b hb'
          obtain ⟨h1, h2⟩ := eqCells_v hb'
          exact ⟨_, _, bin_agg (.inl rfl) hE (agg_map_v hl hr h1) (agg_map_v hl' hr' h2) hb' w, hb (by simpa using h)⟩
        · rename_i b hb'
          obtain ⟨h1, h2⟩ := eqCells_v hb'
          exact ⟨_, _, bin_agg (.inr rfl) hE (agg_map_v hl hr h1) (agg_map_v hl' hr' h2) hb' w, hb (by simpa using h)⟩
        · exact h.elim
  · exact h.elim

theorem mm_ok {P : Program} {F : Fr} {g M w} (mx : Bool) : ∀ (l : List D) (vs : List Value) (d : D) (u : Value) (r : D), vs.length = l.length → (∀ (i : Nat) d u, l[i]? = some d → vs[i]? = some u → Tv g (Ok F g M w) w d u) → Tv g (Ok F g M w) w d u → mmD mx d l = some r →
    ∃ v, (vs.foldlM (if mx then Builtin.max2 else Builtin.min2) u).run P w = .ok v w ∧ Tv g (Ok F g M w) w r v
  | [], vs, d, u, r, hl, _, hu, h => by
    have hv : vs = [] := by simpa using hl
    subst hv
    refine ⟨u, by simp [List.foldlM], ?_⟩
    unfold mmD at h
    split at h
    · cases h; exact hu
    · rename_i hh; simp at hh
    · simp at h
  | e :: l, [], d, u, r, hl, _, _, _ => by simp at hl
  | e :: l, v :: vs, d, u, r, hl, hr, hu, h => by
    unfold mmD at h
    split at h
    · rename_i hh; simp at hh
    · rename_i k x k' y l' hh
      cases hh
      cases hu.cell rfl with
      | c _ _ hc => cases hc with
        | v => cases (hr 0 _ v rfl rfl).cell rfl with
          | c _ _ hc => cases hc with
            | v =>
              obtain ⟨q, q1, q2⟩ := mm_ok mx l vs _ (.int k (if mx then (if y > x then y else x) else (if y < x then y else x))) r (by simpa using hl) (fun i d u hd hu => hr (i + 1) d u (by simpa using hd) (by simpa using hu)) (.c _ _ (.c _ _ (.v _ rfl))) h
              refine ⟨q, ?_, q2⟩
              cases mx <;> simpa [List.foldlM, Builtin.max2, Builtin.min2] using q1
    · simp at h

theorem map_eval {g A w} {ρ : Operand → D} {ev : Operand → Value} (h : ∀ x, Tv g A w (ρ x) (ev x)) (l : List Operand) : (l.map ev).length = (l.map ρ).length ∧ ∀ (i : Nat) d u, (l.map ρ)[i]? = some d → (l.map ev)[i]? = some u → Tv g A w d u := by
  refine ⟨by simp, fun i d u hd hu => ?_⟩
  rw [List.getElem?_map] at hd hu
  cases hl : l[i]? with
  | none => rw [hl] at hd; simp at hd
  | some x => rw [hl] at hd hu; simp at hd hu; rw [← hd, ← hu]; exact h x

theorem builtin_ok {P : Program} {F : Fr} {g M w nx} (hM : MemOk F g M w) {b : Builtin} {ds : List D} {vs : List Value} {ts : List TypeId} {ty : TypeId} {cs : Array Bool} {fid : Nat} (hl : vs.length = ds.length)
    (hr : ∀ (i : Nat) d u, ds[i]? = some d → vs[i]? = some u → Tv g (Ok F g M w) w d u) (h : semBuiltin P F.np b ds ts M fid nx) : OpRes P F g M w nx ((builtin b ts.toArray ty cs vs.toArray).run P w) := by
  unfold semBuiltin at h
  split at h
  · match vs, hl with
    | [v], _ => exact OpRes.value (len_ok hM (hr 0 _ v rfl rfl) h)
  · match vs, hl with
    | [u, v], _ => exact OpRes.value (append_ok hM (hr 0 _ u rfl rfl) (hr 1 _ v rfl rfl) h)
  · unfold semMM at h
    split at h
    · rename_i d l
      split at h
      · rename_i r hr'
        match vs, hl with
        | u :: vs, hl =>
          obtain ⟨q, q1, q2⟩ := mm_ok (P := P) false l vs d u r (by simpa using hl) (fun i d u hd hu => hr (i + 1) d u (by simpa using hd) (by simpa using hu)) (hr 0 d u rfl rfl) hr'
          exact OpRes.value ⟨q, w, by simpa [Builtin.min_] using q1, SR.plain hM h q2⟩
      · exact h.elim
    · exact h.elim
  · unfold semMM at h
    split at h
    · rename_i d l
      split at h
      · rename_i r hr'
        match vs, hl with
        | u :: vs, hl =>
          obtain ⟨q, q1, q2⟩ := mm_ok (P := P) true l vs d u r (by simpa using hl) (fun i d u hd hu => hr (i + 1) d u (by simpa using hd) (by simpa using hu)) (hr 0 d u rfl rfl) hr'
          exact OpRes.value ⟨q, w, by simpa [Builtin.max_] using q1, SR.plain hM h q2⟩
      · exact h.elim
    · exact h.elim
  · exact h.elim

theorem parts_ok {g A w} {ρ : Operand → D} {ev : Operand → Value} (h : ∀ x, Tv g A w (ρ x) (ev x)) (parts : Array (Nat × Operand)) :
    (parts.map fun (i, x) => (i, ev x)).toList.length = (partsD ρ parts).length ∧
    ∀ (i : Nat) p v, (partsD ρ parts)[i]? = some p → (parts.map fun (i, x) => (i, ev x)).toList[i]? = some v → p.1 = v.1 ∧ Tv g A w p.2 v.2 := by
  refine ⟨by simp [partsD], fun i p v hp hv => ?_⟩
  simp only [partsD, List.getElem?_map, Array.toList_map] at hp hv
  cases hl : parts.toList[i]? with
  | none => rw [hl] at hp; simp at hp
  | some q => rw [hl] at hp hv; simp at hp hv; subst hp; subst hv; exact ⟨rfl, h _⟩

theorem optD_ok {g A w} {ρ : Operand → D} {ev : Operand → Value} (h : ∀ x, Tv g A w (ρ x) (ev x)) (x : Option Operand) : match x.map ρ, x.map ev with | none, none => True | some d, some v => Tv g A w d v | _, _ => False := by
  cases x with
  | none => trivial
  | some x => exact h x

theorem op_ok {P : Program} {K : Kt} (hK : KOk P K) {F : Fr} {g M w nx} (hM : MemOk F g M w) {o : Oper} {ρ : Operand → D} {ev : Operand → Value} (hρ : ∀ x, Tv g (Ok F g M w) w (ρ x) (ev x)) {fid : Nat}
    (h : sem P K F.np o.op ρ M fid nx) : OpRes P F g M w nx ((execOp ev o).run P w) := by
  obtain ⟨dst, op, type, pos, after, guard⟩ := o
  change sem P K F.np op ρ M fid nx at h
  unfold sem at h
  split at h
  · exact .inl ⟨_, _, rfl, SR.plain hM h (hρ _)⟩
  · exact .inl ⟨_, _, rfl, SR.plain hM h (hρ _)⟩
  · rename_i c a b
    unfold semPick at h
    split at h
    · rename_i t ht
      have := hρ c
      rw [ht] at this
      have hc : ev c = .bool t := by
        cases this.cell rfl with | c _ _ hr => generalize ev c = q at hr; cases hr with | v => rfl
      cases t with
      | true => exact .inl ⟨ev a, w, by simp [execOp, hc, asBool], SR.plain hM (h.1 rfl) (hρ _)⟩
      | false => exact .inl ⟨ev b, w, by simp [execOp, hc, asBool], SR.plain hM (h.2 rfl) (hρ _)⟩
    · exact h.elim
  · exact OpRes.value (alloc_ok hM h)
  · exact OpRes.value (box_ok (P := P) hM (hρ _) h)
  · rename_i t parts
    obtain ⟨h1, h2⟩ := parts_ok hρ parts
    exact OpRes.value (build_ok hM h1 h2 (semBuildT_imp h))
  · rename_i t len parts
    obtain ⟨h1, h2⟩ := parts_ok hρ parts
    exact OpRes.value (buildSlice_ok hM h1 h2 h)
  · exact OpRes.value (load_ok hM (hρ _) h)
  · obtain ⟨w', h1, h2⟩ := store_ok (P := P) hM (hρ _) (hρ _) h
    exact .inr (.inl ⟨w', by simp [execOp, h1], h2⟩)
  · rename_i x
    have hx := hρ x
    have hn : ∀ {q : Value}, ev x = q → (match q with | .pointer (some _) => True | .func (.func _) _ _ => True | _ => False) → nx (ρ x) M → OpRes P F g M w nx ((execOp ev ⟨dst, .nilCheck x, type, pos, after, guard⟩).run P w) := by
      intro q hq hm hnx
      refine .inl ⟨ev x, w, ?_, SR.plain hM hnx hx⟩
      subst hq
      simp only [execOp]
      split at hm <;> simp_all
    unfold semNil at h
    split at h
    · rename_i id off hd
      rw [hd] at hx
      generalize hq : ev x = q at hx
      cases hx.cell rfl with
      | c _ _ hh => cases hh
      | box _ _ gi hg => exact hn hq trivial h
    · rename_i id i off hd
      rw [hd] at hx
      generalize hq : ev x = q at hx
      cases hx.cell rfl with
      | c _ _ hh => cases hh
      | elt _ _ _ gi hg hi => exact hn hq trivial h
    · rename_i sz es i off hd
      rw [hd] at hx
      generalize hq : ev x = q at hx
      cases hx.cell rfl with
      | c _ _ hh => cases hh with
        | rp => exact hn hq trivial h
    · rename_i f a b hd
      rw [hd] at hx
      generalize hq : ev x = q at hx
      cases hx.cell rfl with
      | c _ _ hh => cases hh with
        | fn => exact hn hq trivial h
      | fn => exact hn hq trivial h
    · exact h.elim
  · exact OpRes.value (bin_ok hM (hρ _) (hρ _) h)
  · exact OpRes.value (un_ok hM (hρ _) h)
  · exact OpRes.value (conv_ok hM (hρ _) h)
  · rename_i fn f c
    unfold semMakeFunc at h
    split at h
    · rename_i ff
      obtain ⟨h1, h2, h3⟩ := h
      refine .inl ⟨.func (.func ff) (f.map ev) (c.map ev), w, by simp [execOp, Instr.makeFunc], SR.plain hM h3 (.c _ _ ?_)⟩
      obtain ⟨p1, p2⟩ := map_eval hρ f.toList
      obtain ⟨q1, q2⟩ := map_eval hρ c.toList
      rw [List.all_eq_true] at h1 h2
      refine .fn ff _ _ (c.map ev) (f.map ev) (by simp) (by simp) (fun i d u hd hu => (p2 i d u hd (by simpa using hu)).cell (h1 d (List.mem_of_getElem? hd))) (fun i d u hd hu => (q2 i d u hd (by simpa using hu)).cell (h2 d (List.mem_of_getElem? hd)))
    · exact h.elim
  · exact OpRes.value (makeSlice_ok hM (hρ _) (hρ _) h)
  · rename_i t x lo hi
    exact OpRes.value (slice_ok hM (hρ _) (optD_ok hρ lo) (optD_ok hρ hi) h)
  · exact OpRes.value (fieldAddr_ok hM (hρ _) h)
  · exact OpRes.value (field_ok hM (hρ _) h)
  · exact OpRes.value (indexAddr_ok hM (hρ _) (hρ _) h)
  · rename_i t x i
    have hx := hρ x
    have hi := hρ i
    refine OpRes.value ?_
    unfold semIndex at h
    split at h
    · rename_i k n s hi' hx'
      rw [hi'] at hi; rw [hx'] at hx
      obtain ⟨_, h1, ⟨h2, h3⟩, h4⟩ := h
      have ht : P.underlying t = some .string := by split at h1 <;> simp_all
      have e1 : ev i = .int k n := by cases hi.cell rfl with | c _ _ hr => generalize ev i = q at hr; cases hr; rfl
      have e2 : ev x = .string s := by cases hx.cell rfl with | c _ _ hr => generalize ev x = q at hr; cases hr; rfl
      have hlt : n.toNat < s.size := by omega
      refine ⟨.int .u8 (s[n.toNat]'hlt).toNat, w, ?_, SR.plain hM (h4 hlt) (.c _ _ (.c _ _ (.v _ rfl)))⟩
      rw [e1, e2]
      simp [Instr.index, asIntOf, run_underlying ht, h2, hlt]
    · exact h.elim
  · exact OpRes.value (extract_ok hM (hρ _) h)
  · exact OpRes.value (makeMap_ok hM h)
  · exact OpRes.value (lookup_ok (P := P) hM (hρ _) (hρ _) h)
  · obtain ⟨w', h1, h2⟩ := mapUpdate_ok (P := P) hM (hρ _) (hρ _) (hρ _) h
    exact .inr (.inl ⟨w', by simp [execOp, h1], h2⟩)
  · exact OpRes.value (range_ok (P := P) hM (hρ _) h)
  · exact OpRes.value (next_ok (P := P) hM (hρ _) h)
  · exact OpRes.value (entry_ok (P := P) hM (hρ _) h)
  · rename_i c
    obtain ⟨callee, args, argTypes⟩ := c
    obtain ⟨p1, p2⟩ := map_eval hρ args.toList
    split at h
    · rename_i b hb
      simp only at hb
      subst hb
      have := builtin_ok (ty := type) (cs := args.map fun | .const _ => true | _ => false) hM p1 p2 h
      have e : (execOp ev ⟨dst, .call ⟨.builtin b, args, argTypes⟩, type, pos, after, guard⟩).run P w = (builtin b argTypes.toList.toArray type (args.map fun | .const _ => true | _ => false) (args.toList.map ev).toArray).run P w := by
        simp [execOp, resolve, invoke]
        congr 2
        apply Array.ext'; simp
      rw [e]; exact this
    · rename_i f hf
      simp only at hf
      subst hf
      split at h
      · rename_i ff first caps hfn
        have hf := hρ f
        rw [hfn] at hf
        have key : ∃ us vs : Array Value, ev f = .func (.func ff) vs us ∧ (vs.toList ++ args.toList.map ev ++ us.toList).length = (first ++ args.toList.map ρ ++ caps).length ∧
            ∀ (i : Nat) d u, (first ++ args.toList.map ρ ++ caps)[i]? = some d → (vs.toList ++ args.toList.map ev ++ us.toList)[i]? = some u → Tv g (Ok F g M w) w d u := by
          have glue : ∀ {us vs : Array Value}, vs.size = first.length → us.size = caps.length → (∀ (i : Nat) d u, first[i]? = some d → vs[i]? = some u → Tc g (Ok F g M w) w d u) → (∀ (i : Nat) d u, caps[i]? = some d → us[i]? = some u → Tc g (Ok F g M w) w d u) →
              (vs.toList ++ args.toList.map ev ++ us.toList).length = (first ++ args.toList.map ρ ++ caps).length ∧
              ∀ (i : Nat) d u, (first ++ args.toList.map ρ ++ caps)[i]? = some d → (vs.toList ++ args.toList.map ev ++ us.toList)[i]? = some u → Tv g (Ok F g M w) w d u := by
            intro us vs h1 h2 h3 h4
            refine ⟨by simp [h1, h2], fun i d u hd hu => ?_⟩
            by_cases a1 : i < first.length
            · rw [List.append_assoc, List.getElem?_append_left a1] at hd
              rw [List.append_assoc, List.getElem?_append_left (by simpa [h1] using a1)] at hu
              exact .c _ _ (h3 i d u hd (by simpa using hu))
            · by_cases a2 : i < first.length + args.toList.length
              · rw [List.getElem?_append_left (by simpa using a2), List.getElem?_append_right (by omega)] at hd
                rw [List.getElem?_append_left (by simp [h1]; simpa using a2), List.getElem?_append_right (by simp [h1]; omega)] at hu
                rw [show vs.toList.length = first.length from by simp [h1]] at hu
                exact p2 _ d u hd hu
              · rw [List.getElem?_append_right (by simp at a2 ⊢; omega)] at hd
                rw [List.getElem?_append_right (by simp [h1] at a2 ⊢; omega)] at hu
                have e1 : (vs.toList ++ args.toList.map ev).length = (first ++ args.toList.map ρ).length := by simp [h1]
                rw [e1] at hu
                exact .c _ _ (h4 _ d u hd (by simpa using hu))
          generalize ev f = q at hf
          cases hf.cell rfl with
          | c _ _ hr => cases hr with
            | fn _ _ _ us vs hl hs hff hrr => exact ⟨us, vs, rfl, glue hl hs (fun i d u a b => .c _ _ (hff i d u a b)) (fun i d u a b => .c _ _ (hrr i d u a b))⟩
          | fn _ _ _ us vs hl hs hff hrr => exact ⟨us, vs, rfl, glue hl hs hff hrr⟩
        obtain ⟨us, vs, he, hl, hr⟩ := key
        obtain ⟨k1, k2⟩ := call_ok hK hM hl hr h
        refine .inr (.inr ⟨ff, _, ?_, k2⟩)
        have e : (vs ++ args.map ev ++ us) = (vs.toList ++ args.toList.map ev ++ us.toList).toArray := by apply Array.ext'; simp
        simp only [execOp, resolve, he, Deferred.ofValue, pure_bind, invoke]
        rw [e]; exact k1
      · exact h.elim
    · exact h.elim
  · exact h.elim

end Go.Abs
