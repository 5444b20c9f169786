/- The abstract machine, ninth part: contracts and calls. -/
import Derived.Test.YtgihcmeifafnjaaCAbsH
set_option linter.unusedVariables false
set_option linter.unusedSimpArgs false
namespace Go.Abs
open Go

/-- A value without identities. -/
abbrev Rv (A : Nat → Prop) (w : World) (d : D) (v : Value) : Prop := Tv (fun _ => none) A w d v

theorem Tc.noId {A : Nat → Prop} {w : World} {d : D} {u : Value} (h : Tc (fun _ => none) A w d u) {g : Nat → Option GI} : Tc g A w d u := h.mono ⟨fun _ _ h => by simp at h, fun _ h => ⟨h, rfl⟩⟩
theorem Tv.noId {A : Nat → Prop} {w : World} {d : D} {u : Value} (h : Rv A w d u) {g : Nat → Option GI} : Tv g A w d u := h.mono ⟨fun _ _ h => by simp at h, fun _ h => ⟨h, rfl⟩⟩
theorem Tv.world {g : Nat → Option GI} {A A' : Nat → Prop} {w w' : World} {d : D} {u : Value} (h : Tv g A w d u) (hA : ∀ b, A b → A' b ∧ w'.heap[b]? = w.heap[b]?) : Tv g A' w' d u := h.mono ⟨fun _ _ h => h, hA⟩

/-- The arguments of a call, as the callee finds them. -/
inductive ArgsOk (A : Nat → Prop) (w : World) : List AD → List Value → List Nat → Prop
  | nil : ArgsOk A w [] [] []
  | d (x : D) (v : Value) (as : List AD) (vs : List Value) (io : List Nat) (h : Rv A w x v) (r : ArgsOk A w as vs io) : ArgsOk A w (.d x :: as) (v :: vs) io
  | io (cs : List D) (b : Nat) (c : Array Value) (T : TypeId) (as : List AD) (vs : List Value) (io : List Nat) (hb : w.heap[b]? = some (.cells c T (0, 0))) (hl : c.size = cs.length)
      (hr : ∀ (i : Nat) d u, cs[i]? = some d → c[i]? = some u → Tc (fun _ => none) A w d u) (r : ArgsOk A w as vs io) : ArgsOk A w (.io cs :: as) (.pointer (some ⟨b, 0, none⟩) :: vs) (b :: io)

def RetOne (A : Nat → Prop) (w : World) : RD → Option GI → Value → Prop
  | .d x, none, v => Rv A w x v
  | .own sz es, some gi, v => EntOk (fun _ => none) A w gi (.row sz es true) ∧ ∃ a c, v = .slice a gi.len c ∧ gi.len ≤ c ∧ c * gi.sz ≤ gi.cap ∧ (c = 0 ∨ a = some ⟨gi.blk, 0, none⟩)
  | .nbox cs, some gi, v => EntOk (fun _ => none) A w gi (.cells cs) ∧ v = .pointer (some ⟨gi.blk, 0, none⟩)
  | .omap kvs, some gi, v => EntOk (fun _ => none) A w gi (.map kvs true) ∧ v = .map (some gi.blk)
  | _, _, _ => False

/-- The blocks that nobody owns behind a call. -/
def RetA (A : Nat → Prop) (w w' : World) (gis : List (Option GI)) (b : Nat) : Prop :=
  b < w'.heap.size ∧ (b < w.heap.size → A b) ∧ ∀ gi, some gi ∈ gis → gi.live = true → gi.blk ≠ b

/-- What a call has brought. -/
structure RetOk (A : Nat → Prop) (w : World) (io : List Nat) (r : Res) (v : Value) (w' : World) : Prop where
  size : w.heap.size ≤ w'.heap.size
  old : ∀ b, b < w.heap.size → b ∉ io → w'.heap[b]? = w.heap[b]?
  os : w'.os = w.os
  tape : w'.tape = w.tape
  output : w'.output = w.output
  dr : w.drawn ≤ w'.drawn
  ret : ∃ (gis : List (Option GI)) (vs : List Value), v = (if vs.length = 1 then vs.getD 0 undef else .tuple vs.toArray) ∧ vs.length = r.ret.length ∧ gis.length = r.ret.length ∧
    (∀ (i : Nat) rd gi u, r.ret[i]? = some rd → gis[i]? = some gi → vs[i]? = some u → RetOne (RetA A w w' gis) w' rd gi u) ∧
    (∀ gi, some gi ∈ gis → gi.live = true → w.heap.size ≤ gi.blk ∧ gi.blk < w'.heap.size) ∧
    (∀ (i j : Nat) gi gj, i ≠ j → gis[i]? = some (some gi) → gis[j]? = some (some gj) → gi.live = true → gj.live = true → gi.blk ≠ gj.blk) ∧
    r.io.length = io.length ∧ ∀ (i : Nat) b cs, io[i]? = some b → r.io[i]? = some cs → ∃ c T, w'.heap[b]? = some (.cells c T (0, 0)) ∧ c.size = cs.length ∧ ∀ (i : Nat) d u, cs[i]? = some d → c[i]? = some u → Tc (fun _ => none) (RetA A w w' gis) w' d u

/-- Nothing of memory in it. -/
def plainC : D → Bool
  | .v _ | .nils => true
  | _ => false
def plainD : D → Bool
  | .agg cs => cs.all plainC
  | d => plainC d
def plainRD : RD → Bool
  | .d x => plainD x
  | .own _ es => es.all fun e => e.all plainC
  | .nbox cs => cs.all plainC
  | .omap kvs => kvs.all fun kv => plainD kv.1 && plainD kv.2

/-- A contract that the program keeps. -/
structure CallOk (P : Program) (f : FuncId) (c : Con) : Prop where
  fn : ∃ fn, P.funcs[f]? = some fn ∧ fn.body.isNone = false ∧ (fn.name == "runtime.NumGoroutine") = false
  clean : c.clean = true → ∀ a r, c.pre a → c.post a r → r.ret.all plainRD = true
  calls : ∀ (a : c.α), c.pre a → ∀ (w : World) (A : Nat → Prop) (io : List Nat) (vs : List Value), ArgsOk A w (c.args a) vs io → io.Nodup → (∀ b, b ∈ io → b < w.heap.size ∧ ¬ A b) → (∀ b, A b → b < w.heap.size) →
    Calls P f vs.toArray w fun e w' => ∃ v r, e = .returned v ∧ c.post a r ∧ RetOk A w io r v w'

theorem Rc.plain {A A' : Nat → Prop} {w w' : World} {d : D} {u : Value} (h : Rc A w d u) (hp : plainC d = true) : Rc A' w' d u := by
  cases h with
  | v x h => exact .v _ h
  | nils => exact .nils
  | _ => simp [plainC] at hp
theorem Tc.plain {g g' : Nat → Option GI} {A A' : Nat → Prop} {w w' : World} {d : D} {u : Value} (h : Tc g A w d u) (hp : plainC d = true) : Tc g' A' w' d u := by
  cases h with
  | c _ _ h => exact .c _ _ (h.plain hp)
  | _ => simp [plainC] at hp
theorem Tv.plain {g g' : Nat → Option GI} {A A' : Nat → Prop} {w w' : World} {d : D} {u : Value} (h : Tv g A w d u) (hp : plainD d = true) : Tv g' A' w' d u := by
  cases h with
  | c _ _ h =>
    refine .c _ _ (h.plain ?_)
    cases d <;> simp_all [plainD]
    cases h with | c _ _ h => cases h
  | agg cs us hl hr =>
    refine .agg cs us hl fun i d u hd hu => (hr i d u hd hu).plain ?_
    simp only [plainD, List.all_eq_true] at hp
    exact hp d (List.mem_of_getElem? hd)
  | tup => simp [plainD, plainC] at hp
  | junk => simp [plainD, plainC] at hp

theorem RetOne.plain {A A' : Nat → Prop} {w : World} {rd : RD} {gi : Option GI} {v : Value} (h : RetOne A w rd gi v) (hp : plainRD rd = true) : RetOne A' w rd gi v := by
  cases rd with
  | d x =>
    cases gi with
    | none => exact Tv.plain h hp
    | some gi => exact h.elim
  | own sz es =>
    cases gi with
    | none => exact h.elim
    | some gi =>
      obtain ⟨⟨h0, h1, h2, h3, h4, h5⟩, hv⟩ := h
      refine ⟨⟨h0, h1, h2, h3, h4, fun hl => ?_⟩, hv⟩
      obtain ⟨_, c, T, k1, k2, k3⟩ := h5 hl
      refine ⟨fun h => by simp at h, c, T, k1, k2, fun i j e d u he hd hu => (k3 i j e d u he hd hu).plain ?_⟩
      simp only [plainRD, List.all_eq_true] at hp
      exact hp e (List.mem_of_getElem? he) d (List.mem_of_getElem? hd)
  | omap kvs =>
    cases gi with
    | none => exact h.elim
    | some gi =>
      obtain ⟨⟨hl, _, es, k1, k2, k3⟩, hv⟩ := h
      refine ⟨⟨hl, fun h => by simp at h, es, k1, k2, k3.1, fun i kv e a b => ?_⟩, hv⟩
      simp only [plainRD, List.all_eq_true, Bool.and_eq_true] at hp
      have := hp kv (List.mem_of_getElem? a)
      exact ⟨(k3.2 i kv e a b).1.plain this.1, (k3.2 i kv e a b).2.plain this.2⟩
  | nbox cs =>
    cases gi with
    | none => exact h.elim
    | some gi =>
      obtain ⟨⟨hl, c, T, k1, k2, k3⟩, hv⟩ := h
      refine ⟨⟨hl, c, T, k1, k2, fun i d u hd hu => (k3 i d u hd hu).plain ?_⟩, hv⟩
      simp only [plainRD, List.all_eq_true] at hp
      exact hp d (List.mem_of_getElem? hd)

/-! ## A call, in the caller -/
def rdE : RD → Option Ent
  | .d _ => none
  | .own sz es => some (.row sz es true)
  | .nbox cs => some (.cells cs)
  | .omap kvs => some (.map kvs true)

theorem retM_get : ∀ (rs : List RD) (fid : Nat) (M : Mem) (id : Nat), retM fid M rs id = match (if fid ≤ id then rs[id - fid]? else none) with
    | some rd => (match rdE rd with | some e => some e | none => M id)
    | none => M id
  | [], fid, M, id => by simp [retM]
  | rd :: rs, fid, M, id => by
    have hstep : retM fid M (rd :: rs) = retM (fid + 1) (match rdE rd with | some e => upd M fid (some e) | none => M) rs := by cases rd <;> rfl
    rw [hstep, retM_get rs (fid + 1)]
    by_cases h1 : fid + 1 ≤ id
    · have h2 : fid ≤ id := by omega
      rw [if_pos h1, if_pos h2]
      have e : id - fid = (id - (fid + 1)) + 1 := by omega
      rw [e, List.getElem?_cons_succ]
      have hu : (match rdE rd with | some e => upd M fid (some e) | none => M) id = M id := by
        cases rdE rd with
        | none => rfl
        | some e => exact upd_ne _ _ (by omega)
      rw [hu]
    · rw [if_neg h1]
      by_cases h3 : id = fid
      · subst h3
        simp only [Nat.le_refl, if_true, Nat.sub_self, List.getElem?_cons_zero]
        cases rdE rd <;> simp
      · rw [if_neg (by omega)]
        simp only
        cases rdE rd with
        | none => rfl
        | some e => exact upd_ne _ _ h3

def retG (fid : Nat) (g : Nat → Option GI) (gis : List (Option GI)) : Nat → Option GI := fun id =>
  match (if fid ≤ id then gis[id - fid]? else none) with
  | some (some gi) => some gi
  | _ => g id

theorem retD_get : ∀ (rs : List RD) (fid i : Nat), (retD fid rs)[i]? = (rs[i]?).map fun rd => match rd with | .d x => x | .own _ _ => .row (fid + i) | .nbox _ => .box (fid + i) 0 | .omap _ => .mp (fid + i)
  | [], _, _ => by simp [retD]
  | rd :: rs, fid, i => by
    have hstep : retD fid (rd :: rs) = (match rd with | .d x => x | .own _ _ => .row fid | .nbox _ => .box fid 0 | .omap _ => .mp fid) :: retD (fid + 1) rs := by cases rd <;> rfl
    rw [hstep]
    cases i with
    | zero => simp
    | succ i =>
      simp only [List.getElem?_cons_succ, retD_get rs (fid + 1) i]
      congr 1; funext rd; cases rd <;> first | rfl | (simp; omega)

theorem ioM_other : ∀ (ids : List Nat) (css : List (List D)) (M : Mem) (id : Nat), id ∉ ids → ioM M ids css id = M id
  | [], css, M, id, _ => by cases css <;> rfl
  | i :: ids, [], M, id, _ => rfl
  | i :: ids, cs :: css, M, id, h => by
    simp only [ioM]
    rw [ioM_other ids css _ id (fun hh => h (List.mem_cons_of_mem _ hh)), upd_ne _ _ (fun hh => h (by rw [hh]; exact List.mem_cons_self))]
theorem ioM_at : ∀ (ids : List Nat) (css : List (List D)) (M : Mem) (k id : Nat) (cs : List D), ids.Nodup → ids[k]? = some id → css[k]? = some cs → ioM M ids css id = some (.cells cs)
  | [], _, _, _, _, _, _, h, _ => by simp at h
  | _ :: _, [], _, _, _, _, _, _, h => by simp at h
  | i :: ids, c :: css, M, k, id, cs, hn, h1, h2 => by
    simp only [ioM]
    rw [List.nodup_cons] at hn
    cases k with
    | zero =>
      simp at h1 h2; subst h1; subst h2
      rw [ioM_other _ _ _ _ hn.1]; simp
    | succ k => exact ioM_at ids css _ k id cs hn.2 (by simpa using h1) (by simpa using h2)

/-- A call whose contract has given its results goes on in the caller. -/
theorem after_call {F : Fr} {g M w nx} (hM : MemOk F g M w) {fid : Nat} {A : Nat → Prop} {io : List Nat} {ids : List Nat} {r : Res} {v : Value} {w' : World} (hR : RetOk A w io r v w')
    (hidn : ids.Nodup) (hil : ids.length = io.length) (hids : ∀ (k : Nat) id b, ids[k]? = some id → io[k]? = some b → ∃ cs gi, M id = some (.cells cs) ∧ g id = some gi ∧ gi.blk = b)
    (hAx : (∀ b, A b → Ok F g M w b) ∨ (r.ret.all plainRD = true ∧ r.io = []))
    (hfree : ∀ j, j < r.ret.length → M (fid + j) = none)
    (hn : nx (tupD (retD fid r.ret)) (retM fid (ioM M ids r.io) r.ret)) : SR F g M w nx v w' := by
  obtain ⟨gis, vs, hv, hvl, hgl, hone, hblk, hdis, hiol, hio⟩ := hR.ret
  -- what a new identity holds
  have hnew : ∀ id, (∃ rd gi, fid ≤ id ∧ r.ret[id - fid]? = some rd ∧ gis[id - fid]? = some (some gi) ∧ rdE rd = (some <| match rd with | .d _ => .dead | .own sz es => .row sz es true | .nbox cs => .cells cs | .omap kvs => .map kvs true) ∧ retG fid g gis id = some gi ∧
      retM fid (ioM M ids r.io) r.ret id = rdE rd ∧ M id = none ∧ g id = none) ∨ (retG fid g gis id = g id ∧ retM fid (ioM M ids r.io) r.ret id = ioM M ids r.io id) := by
    intro id
    by_cases h1 : fid ≤ id
    · cases hrd : r.ret[id - fid]? with
      | none =>
        right
        have : gis[id - fid]? = none := by rw [List.getElem?_eq_none_iff] at hrd ⊢; omega
        simp [retG, h1, this, retM_get, hrd]
      | some rd =>
        have hlt : id - fid < r.ret.length := by
          rcases Nat.lt_or_ge (id - fid) r.ret.length with h | h
          · exact h
          · simp [List.getElem?_eq_none h] at hrd
        have hMn : M id = none := by have := hfree _ hlt; rwa [show fid + (id - fid) = id from by omega] at this
        have hgi : gis[id - fid]? = some gis[id - fid] := List.getElem?_eq_getElem (by omega)
        have hvv : vs[id - fid]? = some vs[id - fid] := List.getElem?_eq_getElem (by omega)
        have h1' := hone _ rd _ _ hrd hgi hvv
        cases hq : gis[id - fid] with
        | none =>
          rw [hq] at h1' hgi
          right
          cases rd with
          | d x => simp [retG, h1, hgi, retM_get, hrd, rdE]
          | _ => exact h1'.elim
        | some gi =>
          rw [hq] at h1' hgi
          left
          refine ⟨rd, gi, h1, rfl, hgi, ?_, ?_, ?_, hMn, hM.gnone hMn⟩
          · cases rd with
            | d x => exact h1'.elim
            | _ => rfl
          · simp [retG, h1, hgi]
          · rw [retM_get]; simp only [h1, if_true, hrd]
            cases rd with
            | d x => exact h1'.elim
            | _ => rfl
    · right; simp [retG, h1, retM_get]
  have hioid : ∀ (k : Nat) id, ids[k]? = some id → ∃ b cs0 cs gi, io[k]? = some b ∧ M id = some (.cells cs0) ∧ g id = some gi ∧ gi.blk = b ∧ gi.live = true ∧ r.io[k]? = some cs ∧ ioM M ids r.io id = some (.cells cs) := by
    intro k id hk
    have hlt : k < ids.length := by
      rcases Nat.lt_or_ge k ids.length with h | h
      · exact h
      · simp [List.getElem?_eq_none h] at hk
    have hb : io[k]? = some io[k] := List.getElem?_eq_getElem (by omega)
    have hc : r.io[k]? = some r.io[k] := List.getElem?_eq_getElem (by omega)
    obtain ⟨cs0, gi, h1, h2, h3⟩ := hids k id _ hk hb
    obtain ⟨gi', hg', hE⟩ := hM.ent id _ h1
    rw [h2] at hg'; cases hg'
    exact ⟨_, cs0, _, gi, hb, h1, h2, h3, hE.1, hc, ioM_at ids r.io M k id _ hidn hk hc⟩
  have hioB : ∀ b, b ∈ io → ∃ id cs0 gi, M id = some (.cells cs0) ∧ g id = some gi ∧ gi.blk = b ∧ gi.live = true ∧ id ∈ ids := by
    intro b hb
    obtain ⟨k, hk⟩ := List.getElem?_of_mem hb
    have hlt : k < io.length := by
      rcases Nat.lt_or_ge k io.length with h | h
      · exact h
      · simp [List.getElem?_eq_none h] at hk
    have hki : ids[k]? = some ids[k] := List.getElem?_eq_getElem (by omega)
    obtain ⟨b', cs0, cs, gi, h1, h2, h3, h4, h5, _⟩ := hioid k _ hki
    rw [hk] at h1; cases h1
    exact ⟨_, cs0, gi, h2, h3, h4, h5, List.getElem_mem _⟩
  have hfin : MemOk F (retG fid g gis) (retM fid (ioM M ids r.io) r.ret) w' ∧ Le g (Ok F g M w) w (retG fid g gis) (Ok F (retG fid g gis) (retM fid (ioM M ids r.io) r.ret) w') w' := by
    have hdr := hR.dr
    refine hM.step (fun b => b ∈ io ∨ w.heap.size ≤ b) (fun id gi hg => ?_) (fun id gi hg => ?_) (fun b hb hnb => hR.old b hb (fun h => hnb (.inl h))) (fun b hb hW => ?_) (fun b hW hlt => ?_) hR.size hR.os hR.tape hR.output (fun hL id e hm => ?_) (fun id e gi hm hx hg hlv => ?_) (fun i j ei ej gi gj hij hi hj hxi hxj hgi hgj hlvi hlvj => ?_)
    · rcases hnew id with ⟨_, _, _, _, _, _, _, _, _, hgn⟩ | ⟨h1, _⟩
      · rw [hg] at hgn; cases hgn
      · rw [h1]; exact hg
    · rcases hnew id with ⟨rd, gi', h1, h2, h3, h4, h5, h6, _, _⟩ | ⟨h1, h2⟩
      · rw [h4] at h6; exact ⟨_, h6⟩
      · rw [h1] at hg
        obtain ⟨e, he⟩ := hM.dom id gi hg
        rw [h2]
        by_cases hid : id ∈ ids
        · obtain ⟨k, hk⟩ := List.getElem?_of_mem hid
          obtain ⟨_, _, cs, _, _, _, _, _, _, _, h⟩ := hioid k id hk
          exact ⟨_, h⟩
        · rw [ioM_other _ _ _ _ hid]; exact ⟨e, he⟩
    · rcases hW with h | h
      · obtain ⟨id, cs0, gi, h1, h2, h3, h4, _⟩ := hioB b h
        exact hb.2.2 id _ gi h1 rfl h2 h4 h3
      · have := hb.1; omega
    · rcases hW with h | h
      · obtain ⟨id, cs0, gi, h1, h2, h3, h4, _⟩ := hioB b h
        rw [← h3] at hlt ⊢
        exact (hM.lo id _ gi h1 rfl h2 h4).2 hlt
      · have := hM.size; omega
    · -- the entries
      have hRA : ∀ b, RetA A w w' gis b → (b < w.heap.size → Ok F g M w b) → Ok F (retG fid g gis) (retM fid (ioM M ids r.io) r.ret) w' b := by
        intro b hb hb'
        refine ⟨hb.1, fun hlt => ?_, fun id e gi hm hx hg hlv hbe => ?_⟩
        · have h1 : b < w.heap.size := Nat.lt_of_lt_of_le hlt hM.size
          exact (hb' h1).2.1 hlt
        · rcases hnew id with ⟨rd, gi', h1, h2, h3, h4, h5, h6, _, _⟩ | ⟨h1, h2⟩
          · rw [hg] at h5; cases h5
            exact hb.2.2 gi (List.mem_of_getElem? h3) hlv hbe
          · rw [h1] at hg; rw [h2] at hm
            by_cases hid : id ∈ ids
            · obtain ⟨k, hk⟩ := List.getElem?_of_mem hid
              obtain ⟨b', cs0, cs, gi', q1, q2, q3, q4, q5, q6, q7⟩ := hioid k id hk
              rw [hg] at q3; cases q3
              have h1 : b < w.heap.size := by rw [← hbe]; exact (hM.lo id _ gi q2 rfl hg hlv).1
              exact (hb' h1).2.2 id _ gi q2 rfl hg hlv hbe
            · rw [ioM_other _ _ _ _ hid] at hm
              have h1 : b < w.heap.size := by rw [← hbe]; exact (hM.lo id _ gi hm hx hg hlv).1
              exact (hb' h1).2.2 id e gi hm hx hg hlv hbe
      rcases hnew id with ⟨rd, gi', h1, h2, h3, h4, h5, h6, _, _⟩ | ⟨h1, h2⟩
      · right
        refine ⟨gi', h5, ?_⟩
        rw [h6, h4] at hm
        obtain ⟨u, hvv⟩ : ∃ u, vs[id - fid]? = some u := ⟨vs[id - fid]'(by
          rcases Nat.lt_or_ge (id - fid) vs.length with h | h
          · exact h
          · have : r.ret[id - fid]? = none := List.getElem?_eq_none (by omega)
            rw [h2] at this; cases this), List.getElem?_eq_getElem _⟩
        have hO := hone _ rd _ _ h2 h3 hvv
        have hO' : RetOne (Ok F (retG fid g gis) (retM fid (ioM M ids r.io) r.ret) w') w' rd (some gi') u := by
          rcases hAx with hA | ⟨hp, _⟩
          · cases rd with
            | d x => exact hO.elim
            | own sz es =>
              refine ⟨hO.1.keep ⟨fun _ _ h => h, fun b hb => ⟨hRA b hb (fun h => hA b (hb.2.1 h)), rfl⟩⟩ (fun _ _ => rfl), hO.2⟩
            | omap kvs => exact ⟨hO.1.keep ⟨fun _ _ h => h, fun b hb => ⟨hRA b hb (fun h => hA b (hb.2.1 h)), rfl⟩⟩ (fun _ _ => rfl), hO.2⟩
            | nbox cs => exact ⟨hO.1.keep ⟨fun _ _ h => h, fun b hb => ⟨hRA b hb (fun h => hA b (hb.2.1 h)), rfl⟩⟩ (fun _ _ => rfl), hO.2⟩
          · rw [List.all_eq_true] at hp
            exact hO.plain (hp rd (List.mem_of_getElem? h2))
        cases rd with
        | d x => exact hO'.elim
        | own sz es =>
          simp only [Option.some.injEq] at hm; subst hm
          exact hO'.1.keep ⟨fun _ _ h => by simp at h, fun _ h => ⟨h, rfl⟩⟩ (fun _ _ => rfl)
        | omap kvs =>
          simp only [Option.some.injEq] at hm; subst hm
          exact hO'.1.keep ⟨fun _ _ h => by simp at h, fun _ h => ⟨h, rfl⟩⟩ (fun _ _ => rfl)
        | nbox cs =>
          simp only [Option.some.injEq] at hm; subst hm
          exact hO'.1.keep ⟨fun _ _ h => by simp at h, fun _ h => ⟨h, rfl⟩⟩ (fun _ _ => rfl)
      · rw [h2] at hm
        by_cases hid : id ∈ ids
        · right
          obtain ⟨k, hk⟩ := List.getElem?_of_mem hid
          obtain ⟨b, cs0, cs, gi, q1, q2, q3, q4, q5, q6, q7⟩ := hioid k id hk
          rw [q7] at hm; cases hm
          obtain ⟨c, T, k1, k2, k3⟩ := hio k b cs q1 q6
          refine ⟨gi, by rw [h1]; exact q3, q5, c, T, by rw [q4]; exact k1, k2, fun i d u hd hu => ?_⟩
          have hA : ∀ b, A b → Ok F g M w b := by
            rcases hAx with hA | ⟨_, hz⟩
            · exact hA
            · rw [hz] at q6; simp at q6
          exact (k3 i d u hd hu).mono ⟨fun _ _ h => by simp at h, fun b hb => ⟨hRA b hb (fun h => hA b (hb.2.1 h)), rfl⟩⟩
        · left
          rw [ioM_other _ _ _ _ hid] at hm
          refine ⟨hm, fun gi hg hx hlv hW => ?_⟩
          rcases hW with h | h
          · obtain ⟨id', cs0, gi', q1, q2, q3, q4, q5⟩ := hioB _ h
            have hne : id ≠ id' := fun h => hid (h ▸ q5)
            exact hM.inj id id' e _ gi gi' hne hm q1 hx rfl hg q2 hlv q4 q3.symm
          · have := (hM.lo id e gi hm hx hg hlv).1; omega
    · rcases hnew id with ⟨rd, gi', h1, h2, h3, h4, h5, h6, hMn, hgn⟩ | ⟨h1, h2⟩
      · rw [hg] at h5; cases h5
        right
        obtain ⟨b1, b2⟩ := hblk gi (List.mem_of_getElem? h3) hlv
        refine ⟨b2, fun hlt => ?_, fun _ => ?_, fun hok => ?_⟩
        · have := hM.size; omega
        · have := hM.size; omega
        · have := hok.1; omega
      · rw [h1] at hg; rw [h2] at hm
        by_cases hid : id ∈ ids
        · right
          obtain ⟨k, hk⟩ := List.getElem?_of_mem hid
          obtain ⟨b, cs0, cs, gi', q1, q2, q3, q4, q5, q6, q7⟩ := hioid k id hk
          rw [hg] at q3; cases q3
          have hlo := hM.lo id _ gi q2 rfl hg hlv
          exact ⟨Nat.lt_of_lt_of_le hlo.1 hR.size, hlo.2, fun h => hM.hi id _ gi h q2 rfl hg hlv, fun hok => hok.2.2 id _ gi q2 rfl hg hlv rfl⟩
        · left
          rw [ioM_other _ _ _ _ hid] at hm
          exact ⟨hm, hg⟩
    · -- apart
      have key : ∀ k ek gk, retM fid (ioM M ids r.io) r.ret k = some ek → ek.ex = true → retG fid g gis k = some gk → gk.live = true →
          (fid ≤ k ∧ gis[k - fid]? = some (some gk) ∧ w.heap.size ≤ gk.blk) ∨ (∃ e0, M k = some e0 ∧ e0.ex = true ∧ g k = some gk ∧ gk.blk < w.heap.size) := by
        intro k ek gk hk hx hgk hlk
        rcases hnew k with ⟨rd, gi', h1, h2, h3, h4, h5, h6, hMn, hgn⟩ | ⟨h1, h2⟩
        · rw [hgk] at h5; cases h5
          exact .inl ⟨h1, h3, (hblk gk (List.mem_of_getElem? h3) hlk).1⟩
        · right
          rw [h1] at hgk; rw [h2] at hk
          by_cases hid : k ∈ ids
          · obtain ⟨q, hq⟩ := List.getElem?_of_mem hid
            obtain ⟨b, cs0, cs, gi', q1, q2, q3, q4, q5, q6, q7⟩ := hioid q k hq
            exact ⟨_, q2, rfl, hgk, (hM.lo k _ gk q2 rfl hgk hlk).1⟩
          · rw [ioM_other _ _ _ _ hid] at hk
            exact ⟨_, hk, hx, hgk, (hM.lo k _ gk hk hx hgk hlk).1⟩
      rcases key i ei gi hi hxi hgi hlvi with ⟨a1, a2, a3⟩ | ⟨e1, a1, a2, a3, a4⟩ <;> rcases key j ej gj hj hxj hgj hlvj with ⟨b1, b2, b3⟩ | ⟨e2, b1, b2, b3, b4⟩
      · exact hdis _ _ gi gj (by omega) a2 b2 hlvi hlvj
      · omega
      · omega
      · exact hM.inj i j e1 e2 gi gj hij a1 b1 a2 b2 a3 b3 hlvi hlvj
  refine ⟨_, _, _, hn, hfin.1, hfin.2, ?_⟩
  -- the value
  have hval : ∀ (i : Nat) d u, (retD fid r.ret)[i]? = some d → vs[i]? = some u → Tv (retG fid g gis) (Ok F (retG fid g gis) (retM fid (ioM M ids r.io) r.ret) w') w' d u := by
    intro i d u hd hu
    rw [retD_get] at hd
    cases hrd : r.ret[i]? with
    | none => rw [hrd] at hd; simp at hd
    | some rd =>
      rw [hrd] at hd
      have hlt : i < r.ret.length := by
        rcases Nat.lt_or_ge i r.ret.length with h | h
        · exact h
        · simp [List.getElem?_eq_none h] at hrd
      have hgi : gis[i]? = some gis[i] := List.getElem?_eq_getElem (by omega)
      have hO := hone i rd _ u hrd hgi hu
      have hgid : ∀ gi, gis[i]? = some (some gi) → retG fid g gis (fid + i) = some gi := by
        intro gi h
        simp [retG, h]
      cases rd with
      | d x =>
        simp at hd; subst hd
        cases hq : gis[i] with
        | some gi => rw [hq] at hO; exact hO.elim
        | none =>
          rw [hq] at hO
          have hO' : Rv (RetA A w w' gis) w' x u := hO
          rcases hAx with hA | ⟨hp, _⟩
          · refine Tv.noId (hO'.world fun b hb => ⟨?_, rfl⟩)
            refine ⟨hb.1, fun hlt => (hA b (hb.2.1 (Nat.lt_of_lt_of_le hlt hM.size))).2.1 hlt, fun id e gi hm hx hg hlv hbe => ?_⟩
            rcases hnew id with ⟨rd, gi', h1, h2, h3, h4, h5, h6, _, _⟩ | ⟨h1, h2⟩
            · rw [hg] at h5; cases h5
              exact hb.2.2 gi (List.mem_of_getElem? h3) hlv hbe
            · rw [h1] at hg; rw [h2] at hm
              have : ∃ e0, M id = some e0 ∧ e0.ex = true := by
                by_cases hid : id ∈ ids
                · obtain ⟨q, hq⟩ := List.getElem?_of_mem hid
                  obtain ⟨b', cs0, cs, gi', q1, q2, q3, q4, q5, q6, q7⟩ := hioid q id hq
                  exact ⟨_, q2, rfl⟩
                · rw [ioM_other _ _ _ _ hid] at hm
                  exact ⟨_, hm, hx⟩
              obtain ⟨e0, h3, h4⟩ := this
              have hlt' : b < w.heap.size := by rw [← hbe]; exact (hM.lo id e0 gi h3 h4 hg hlv).1
              exact (hA b (hb.2.1 hlt')).2.2 id e0 gi h3 h4 hg hlv hbe
          · rw [List.all_eq_true] at hp
            exact Tv.plain hO' (hp _ (List.mem_of_getElem? hrd))
      | own sz es =>
        simp at hd; subst hd
        cases hq : gis[i] with
        | none => rw [hq] at hO; exact hO.elim
        | some gi =>
          rw [hq] at hO hgi
          obtain ⟨_, a, c, rfl, h1, h2, h3⟩ := hO
          exact .c _ _ (.row (fid + i) gi a c (hgid gi hgi) h1 h2 h3)
      | omap kvs =>
        simp at hd; subst hd
        cases hq : gis[i] with
        | none => rw [hq] at hO; exact hO.elim
        | some gi =>
          rw [hq] at hO hgi
          obtain ⟨_, rfl⟩ := hO
          exact .c _ _ (.mp (fid + i) gi (hgid gi hgi))
      | nbox cs =>
        simp at hd; subst hd
        cases hq : gis[i] with
        | none => rw [hq] at hO; exact hO.elim
        | some gi =>
          rw [hq] at hO hgi
          obtain ⟨_, rfl⟩ := hO
          exact .c _ _ (.box (fid + i) 0 gi (hgid gi hgi))
  have hdl : (retD fid r.ret).length = r.ret.length := by
    have : ∀ (rs : List RD) (fid : Nat), (retD fid rs).length = rs.length := by
      intro rs
      induction rs with
      | nil => intro fid; rfl
      | cons rd rs ih => intro fid; cases rd <;> simp [retD, ih]
    exact this _ _
  subst hv
  by_cases h1 : vs.length = 1
  · rw [if_pos h1]
    obtain ⟨u, hu⟩ := List.length_eq_one_iff.1 h1
    have : (retD fid r.ret).length = 1 := by omega
    obtain ⟨d, hd⟩ := List.length_eq_one_iff.1 this
    rw [hd, hu]
    exact hval 0 d u (by rw [hd]; rfl) (by rw [hu]; rfl)
  · rw [if_neg h1]
    have : tupD (retD fid r.ret) = .tup (retD fid r.ret) := by
      cases hq : retD fid r.ret with
      | nil => rfl
      | cons d l =>
        cases l with
        | nil => rw [hq] at hdl; simp at hdl; omega
        | cons => rfl
    rw [this]
    exact .tup _ _ (by simp; omega) fun i d u hd hu => hval i d u hd (by simpa using hu)

end Go.Abs
