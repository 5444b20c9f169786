/- The abstract machine, first part: data, representation, monotonicity. -/
import Derived.Calls
import Derived.Orders
import Derived.Tactics
import Derived.Below
import Derived.KernelRfl
import Derived.Maps.Range
import Derived.Deep.AppendSrc
import Derived.Great.FillDense
import Derived.Laws.CopyRow
import Derived.IntWalk
import Derived.Deep.Upon
import Derived.Laws.AppendOwn
set_option linter.unusedVariables false
set_option linter.unusedSimpArgs false
namespace Go.Abs
open Go

/-- Abstract values. The first seven have no identity: what they say of memory is never written again. -/
inductive D where
  | v (x : Value)
  | agg (cs : List D)
  | tup (ds : List D)
  | nils
  | sl (sz : Nat) (es : List (List D))
  | rp (sz : Nat) (es : List (List D)) (i off : Nat)
  | fn (f : FuncId) (first caps : List D)
  | row (id : Nat)
  | vw (id off n : Nat)
  | elt (id i off : Nat)
  | box (id off : Nat)
  | mp (id : Nat)
  | it (id : Nat)
  | junk
  deriving Inhabited

/-- What an identity holds. -/
inductive Ent where
  | cells (cs : List D)
  | row (sz : Nat) (es : List (List D)) (ex : Bool)
  | map (kvs : List (D × D)) (ex : Bool)
  | iter (left : List (D × D)) (last : Option (D × D))
  | rmap (kvs : List (D × Nat))
  | dead
  deriving Inhabited

def flat : Value → Bool
  | .bool _ | .int _ _ | .string _ | .pointer none | .nilFunc | .nilIface | .map none => true
  | _ => false

/-- A frozen cell. -/
inductive Rc (A : Nat → Prop) (w : World) : D → Value → Prop
  | v (x : Value) (h : flat x = true) : Rc A w (.v x) x
  | nils : Rc A w .nils (.slice none 0 0)
  | sl (sz : Nat) (es : List (List D)) (a : Option Addr) (c : Nat) (X : Nat → Nat → Value) (hn : es.length ≤ c) (hsz : ∀ e, e ∈ es → e.length = sz)
      (ha : es ≠ [] → ∃ b o, a = some ⟨b, o, none⟩ ∧ A b ∧ ∀ i j, i < es.length → j < sz → w.cell? ⟨b, o + i * sz + j, none⟩ = some (X i j))
      (hr : ∀ (i j : Nat) e d, es[i]? = some e → e[j]? = some d → Rc A w d (X i j)) : Rc A w (.sl sz es) (.slice a es.length c)
  | rp (sz : Nat) (es : List (List D)) (i off b o : Nat) (X : Nat → Nat → Value) (hsz : ∀ e, e ∈ es → e.length = sz) (hi : i < es.length) (hA : A b)
      (hc : ∀ i j, i < es.length → j < sz → w.cell? ⟨b, o + i * sz + j, none⟩ = some (X i j))
      (hr : ∀ (i j : Nat) e d, es[i]? = some e → e[j]? = some d → Rc A w d (X i j)) : Rc A w (.rp sz es i off) (.pointer (some ⟨b, o + i * sz + off, none⟩))
  | fn (f : FuncId) (first caps : List D) (us vs : Array Value) (hl : vs.size = first.length) (hs : us.size = caps.length)
      (hf : ∀ (i : Nat) d u, first[i]? = some d → vs[i]? = some u → Rc A w d u)
      (hr : ∀ (i : Nat) d u, caps[i]? = some d → us[i]? = some u → Rc A w d u) : Rc A w (.fn f first caps) (.func (.func f) vs us)

theorem cell?_heap {w w' : World} {b o : Nat} {s : Option Nat} (h : w'.heap[b]? = w.heap[b]?) : w'.cell? ⟨b, o, s⟩ = w.cell? ⟨b, o, s⟩ := by
  simp only [World.cell?, h]

theorem Rc.mono {A A' : Nat → Prop} {w w' : World} {d : D} {u : Value} (h : Rc A w d u) (hA : ∀ b, A b → A' b ∧ w'.heap[b]? = w.heap[b]?) : Rc A' w' d u := by
  induction h with
  | v x h => exact .v x h
  | nils => exact .nils
  | sl sz es a c X hn hsz ha hr ih =>
    refine .sl sz es a c X hn hsz (fun hne => ?_) ih
    obtain ⟨b, o, rfl, hb, hc⟩ := ha hne
    exact ⟨b, o, rfl, (hA b hb).1, fun i j hi hj => (cell?_heap (hA b hb).2).trans (hc i j hi hj)⟩
  | rp sz es i off b o X hsz hi hb hc hr ih =>
    exact .rp sz es i off b o X hsz hi (hA b hb).1 (fun i j hi hj => (cell?_heap (hA b hb).2).trans (hc i j hi hj)) ih
  | fn f first caps us vs hl hs hf hr ihf ih => exact .fn f first caps us vs hl hs ihf ih

theorem Rc.one {A : Nat → Prop} {w : World} {d : D} {u : Value} (h : Rc A w d u) : u.oneCell' = true := by
  cases h with
  | v x h => cases u <;> simp_all [flat, Value.oneCell']
  | _ => rfl

/-- Where an identity lies: its block, how many cells it may use there, the size and the number of a row's elements. -/
structure GI where
  blk : Nat
  cap : Nat
  sz : Nat
  len : Nat
  live : Bool
  deriving Inhabited

/-- A cell, identities among it. -/
inductive Tc (g : Nat → Option GI) (A : Nat → Prop) (w : World) : D → Value → Prop
  | c (d : D) (u : Value) (h : Rc A w d u) : Tc g A w d u
  | row (id : Nat) (gi : GI) (a : Option Addr) (c : Nat) (hg : g id = some gi) (hn : gi.len ≤ c) (hc : c * gi.sz ≤ gi.cap) (ha : c = 0 ∨ a = some ⟨gi.blk, 0, none⟩) : Tc g A w (.row id) (.slice a gi.len c)
  | vw (id off n : Nat) (gi : GI) (a : Option Addr) (c : Nat) (hg : g id = some gi) (ho : off + n ≤ gi.len) (hn : n ≤ c) (ha : n = 0 ∨ a = some ⟨gi.blk, off * gi.sz, none⟩) : Tc g A w (.vw id off n) (.slice a n c)
  | elt (id i off : Nat) (gi : GI) (hg : g id = some gi) (hi : i < gi.len) : Tc g A w (.elt id i off) (.pointer (some ⟨gi.blk, i * gi.sz + off, none⟩))
  | box (id off : Nat) (gi : GI) (hg : g id = some gi) : Tc g A w (.box id off) (.pointer (some ⟨gi.blk, off, none⟩))
  | mp (id : Nat) (gi : GI) (hg : g id = some gi) : Tc g A w (.mp id) (.map (some gi.blk))
  | it (id : Nat) (gi : GI) (hg : g id = some gi) : Tc g A w (.it id) (.pointer (some ⟨gi.blk, 0, none⟩))
  | fn (f : FuncId) (first caps : List D) (us vs : Array Value) (hl : vs.size = first.length) (hs : us.size = caps.length)
      (hf : ∀ (i : Nat) d u, first[i]? = some d → vs[i]? = some u → Tc g A w d u)
      (hr : ∀ (i : Nat) d u, caps[i]? = some d → us[i]? = some u → Tc g A w d u) : Tc g A w (.fn f first caps) (.func (.func f) vs us)

/-- A value: a cell, an aggregate of cells, a tuple; of junk nothing is said. -/
inductive Tv (g : Nat → Option GI) (A : Nat → Prop) (w : World) : D → Value → Prop
  | c (d : D) (u : Value) (h : Tc g A w d u) : Tv g A w d u
  | agg (cs : List D) (us : Array Value) (hl : us.size = cs.length) (hr : ∀ (i : Nat) d u, cs[i]? = some d → us[i]? = some u → Tc g A w d u) : Tv g A w (.agg cs) (.agg us)
  | tup (ds : List D) (us : Array Value) (hl : us.size = ds.length) (hr : ∀ (i : Nat) d u, ds[i]? = some d → us[i]? = some u → Tv g A w d u) : Tv g A w (.tup ds) (.tuple us)
  | junk (u : Value) : Tv g A w .junk u

/-- From one state of memory to another one: what was known is known. -/
structure Le (g : Nat → Option GI) (A : Nat → Prop) (w : World) (g' : Nat → Option GI) (A' : Nat → Prop) (w' : World) : Prop where
  g : ∀ id gi, g id = some gi → g' id = some gi
  A : ∀ b, A b → A' b ∧ w'.heap[b]? = w.heap[b]?

theorem Le.refl (g A w) : Le g A w g A w := ⟨fun _ _ h => h, fun _ h => ⟨h, rfl⟩⟩
theorem Le.trans {g A w g1 A1 w1 g2 A2 w2} (h : Le g A w g1 A1 w1) (k : Le g1 A1 w1 g2 A2 w2) : Le g A w g2 A2 w2 :=
  ⟨fun id gi hh => k.g id gi (h.g id gi hh), fun b hb => ⟨(k.A b (h.A b hb).1).1, (k.A b (h.A b hb).1).2.trans (h.A b hb).2⟩⟩

theorem Tc.mono {g A w g' A' w'} {d : D} {u : Value} (h : Tc g A w d u) (hL : Le g A w g' A' w') : Tc g' A' w' d u := by
  induction h with
  | c d u h => exact .c d u (h.mono hL.A)
  | row id gi a c hg hn hc ha => exact .row id gi a c (hL.g _ _ hg) hn hc ha
  | vw id off n gi a c hg ho hn ha => exact .vw id off n gi a c (hL.g _ _ hg) ho hn ha
  | elt id i off gi hg hi => exact .elt id i off gi (hL.g _ _ hg) hi
  | box id off gi hg => exact .box id off gi (hL.g _ _ hg)
  | mp id gi hg => exact .mp id gi (hL.g _ _ hg)
  | it id gi hg => exact .it id gi (hL.g _ _ hg)
  | fn f first caps us vs hl hs hf hr ihf ih => exact .fn f first caps us vs hl hs ihf ih

theorem Tc.one {g A w} {d : D} {u : Value} (h : Tc g A w d u) : u.oneCell' = true := by
  cases h with
  | c d u h => exact h.one
  | _ => rfl

theorem Tv.mono {g A w g' A' w'} {d : D} {u : Value} (h : Tv g A w d u) (hL : Le g A w g' A' w') : Tv g' A' w' d u := by
  induction h with
  | c d u h => exact .c d u (h.mono hL)
  | agg cs us hl hr => exact .agg cs us hl fun i d u h1 h2 => (hr i d u h1 h2).mono hL
  | tup ds us hl hr ih => exact .tup ds us hl ih
  | junk u => exact .junk u

def Ent.ex : Ent → Bool
  | .cells _ | .iter _ _ | .rmap _ => true
  | .row _ _ e | .map _ e => e
  | .dead => false

/-- The frame's constants. -/
structure Fr where
  w0 : World
  A : Nat → Prop
  io : List Nat
  n : Nat
  np : Nat
  pb : Nat → Option Nat

def Fr.B (F : Fr) : Nat := F.w0.heap.size

/-- The blocks that nobody writes any more. -/
def Ok (F : Fr) (g : Nat → Option GI) (M : Nat → Option Ent) (w : World) (b : Nat) : Prop :=
  b < w.heap.size ∧ (b < F.B → F.A b) ∧ ∀ id e gi, M id = some e → e.ex = true → g id = some gi → gi.live = true → gi.blk ≠ b

/-- Entries of a map. -/
def EntsG (g : Nat → Option GI) (A : Nat → Prop) (w : World) (kvs : List (D × D)) (es : List MapEntry) : Prop :=
  es.length = kvs.length ∧ ∀ (i : Nat) kv e, kvs[i]? = some kv → es[i]? = some e → Tv (fun _ => none) A w kv.1 e.key ∧ Tv g A w kv.2 e.val
abbrev EntsOk (A : Nat → Prop) (w : World) (kvs : List (D × D)) (es : List MapEntry) : Prop := EntsG (fun _ => none) A w kvs es
/-- A map whose values are rows of the call's own. -/
def rows (kvs : List (D × Nat)) : List (D × D) := kvs.map fun p => (p.1, .row p.2)

/-- What the memory has of an identity. -/
def EntOk (g : Nat → Option GI) (A : Nat → Prop) (w : World) (gi : GI) : Ent → Prop
  | .cells cs => gi.live = true ∧ ∃ c T, w.heap[gi.blk]? = some (.cells c T (0, 0)) ∧ c.size = cs.length ∧ ∀ (i : Nat) d u, cs[i]? = some d → c[i]? = some u → Tc g A w d u
  | .row sz es ex => gi.sz = sz ∧ gi.len = es.length ∧ (∀ e, e ∈ es → e.length = sz) ∧ es.length * sz ≤ gi.cap ∧ (gi.live = false → es = [] ∧ gi.cap = 0) ∧
      (gi.live = true → (ex = false → A gi.blk) ∧ ∃ c T, w.heap[gi.blk]? = some (.cells c T (0, 0)) ∧ gi.cap ≤ c.size ∧ ∀ (i j : Nat) e d u, es[i]? = some e → e[j]? = some d → c[i * sz + j]? = some u → Rc A w d u)
  | .map kvs ex => gi.live = true ∧ (ex = false → A gi.blk) ∧ ∃ es : Array MapEntry, w.heap[gi.blk]? = some (.map es es.size) ∧ (∀ (i : Nat) e, es[i]? = some e → e.born = i) ∧ EntsOk A w kvs es.toList
  | .iter left last => gi.live = true ∧ ∃ (mb : Nat) (es : Array MapEntry) (seen : Array Nat), A mb ∧ w.heap[mb]? = some (.map es es.size) ∧ (∀ (i : Nat) e, es[i]? = some e → e.born = i) ∧ w.heap[gi.blk]? = some (.mapIter (some mb) es.size seen es.size) ∧
      EntsOk A w left (leftOf es seen).toList ∧ ∀ kv, last = some kv → ∃ (s0 : Array Nat) (e : MapEntry), seen = s0.push e.born ∧ e ∈ es.toList ∧ Tv (fun _ => none) A w kv.1 e.key ∧ Tv (fun _ => none) A w kv.2 e.val
  | .rmap kvs => gi.live = true ∧ ∃ es : Array MapEntry, w.heap[gi.blk]? = some (.map es es.size) ∧ (∀ (i : Nat) e, es[i]? = some e → e.born = i) ∧ EntsG g A w (rows kvs) es.toList
  | .dead => True

structure MemOk (F : Fr) (g : Nat → Option GI) (M : Nat → Option Ent) (w : World) : Prop where
  ent : ∀ id e, M id = some e → ∃ gi, g id = some gi ∧ EntOk g (Ok F g M w) w gi e
  dom : ∀ id gi, g id = some gi → ∃ e, M id = some e
  inj : ∀ i j ei ej gi gj, i ≠ j → M i = some ei → M j = some ej → ei.ex = true → ej.ex = true → g i = some gi → g j = some gj → gi.live = true → gj.live = true → gi.blk ≠ gj.blk
  lo : ∀ i e gi, M i = some e → e.ex = true → g i = some gi → gi.live = true → gi.blk < w.heap.size ∧ (gi.blk < F.B → gi.blk ∈ F.io)
  hi : ∀ i e gi, F.np ≤ i → M i = some e → e.ex = true → g i = some gi → gi.live = true → F.B ≤ gi.blk
  size : F.B ≤ w.heap.size
  old : ∀ b, b < F.B → b ∉ F.io → w.heap[b]? = F.w0.heap[b]?
  os : w.os = F.w0.os
  tape : w.tape = F.w0.tape
  output : w.output = F.w0.output
  dr : F.w0.drawn ≤ w.drawn
  ioA : ∀ b, b ∈ F.io → ¬ F.A b
  par : ∀ j b, F.pb j = some b → j < F.np ∧ ∃ gi, g j = some gi ∧ gi.blk = b

structure S where
  env : Nat → D
  mem : Nat → Option Ent
  nx : Nat

/-- A state tells of a frame and a world. -/
def Inv (F : Fr) (s : S) (a : Act) (w : World) : Prop :=
  a.defers = [] ∧ a.tmps.size = F.n ∧ ∃ g, MemOk F g s.mem w ∧ ∀ t, Tv g (Ok F g s.mem w) w (s.env t) (a.tmps.getD t undef)

def upd {α : Type} (f : Nat → α) (i : Nat) (x : α) : Nat → α := fun j => if j = i then x else f j
@[simp] theorem upd_same {α : Type} (f : Nat → α) (i : Nat) (x : α) : upd f i x i = x := by simp [upd]
theorem upd_ne {α : Type} (f : Nat → α) {i j : Nat} (x : α) (h : j ≠ i) : upd f i x j = f j := by simp [upd, h]

end Go.Abs

/- The abstract machine, second part: how a state of memory goes on. -/
set_option linter.unusedVariables false
set_option linter.unusedSimpArgs false
namespace Go.Abs
open Go

theorem EntsG.mono {g g' : Nat → Option GI} {A A' : Nat → Prop} {w w' : World} {kvs : List (D × D)} {es : List MapEntry} (h : EntsG g A w kvs es) (hL : Le g A w g' A' w') : EntsG g' A' w' kvs es :=
  ⟨h.1, fun i kv e a b => ⟨(h.2 i kv e a b).1.mono ⟨fun _ _ h => h, hL.A⟩, (h.2 i kv e a b).2.mono hL⟩⟩

theorem EntsOk.mono {A A' : Nat → Prop} {w w' : World} {kvs : List (D × D)} {es : List MapEntry} (h : EntsOk A w kvs es) (hA : ∀ b, A b → A' b ∧ w'.heap[b]? = w.heap[b]?) : EntsOk A' w' kvs es :=
  ⟨h.1, fun i kv e a b => ⟨(h.2 i kv e a b).1.mono ⟨fun _ _ h => h, hA⟩, (h.2 i kv e a b).2.mono ⟨fun _ _ h => h, hA⟩⟩⟩

theorem EntOk.keep {g A w g' A' w'} {gi : GI} {e : Ent} (h : EntOk g A w gi e) (hL : Le g A w g' A' w') (hb : e.ex = true → gi.live = true → w'.heap[gi.blk]? = w.heap[gi.blk]?) : EntOk g' A' w' gi e := by
  cases e with
  | cells cs =>
    obtain ⟨hl, c, T, h1, h2, h3⟩ := h
    exact ⟨hl, c, T, (hb rfl hl).trans h1, h2, fun i d u a b => (h3 i d u a b).mono hL⟩
  | row sz es ex =>
    obtain ⟨h0, h1, h2, h3, hl, hA⟩ := h
    refine ⟨h0, h1, h2, h3, hl, fun hv => ?_⟩
    obtain ⟨hA, c, T, h4, h5, h6⟩ := hA hv
    have hh : w'.heap[gi.blk]? = w.heap[gi.blk]? := by
      cases ex with
      | true => exact hb rfl hv
      | false => exact (hL.A _ (hA rfl)).2
    exact ⟨fun he => (hL.A _ (hA he)).1, c, T, hh.trans h4, h5, fun i j e d u a b c => (h6 i j e d u a b c).mono hL.A⟩
  | map kvs ex =>
    obtain ⟨hl, hA, es, h1, h2, h3⟩ := h
    have hh : w'.heap[gi.blk]? = w.heap[gi.blk]? := by
      cases ex with
      | true => exact hb rfl hl
      | false => exact (hL.A _ (hA rfl)).2
    exact ⟨hl, fun he => (hL.A _ (hA he)).1, es, hh.trans h1, h2, h3.mono hL.A⟩
  | iter left last =>
    obtain ⟨hl, mb, es, seen, h1, h2, h3, h4, h5, h6⟩ := h
    have hL0 : Le (fun _ => none) A w (fun _ => none) A' w' := ⟨fun _ _ h => h, hL.A⟩
    refine ⟨hl, mb, es, seen, (hL.A _ h1).1, (hL.A _ h1).2.trans h2, h3, (hb rfl hl).trans h4, h5.mono hL.A, fun kv hk => ?_⟩
    obtain ⟨s0, e, k1, k2, k3, k4⟩ := h6 kv hk
    exact ⟨s0, e, k1, k2, k3.mono hL0, k4.mono hL0⟩
  | rmap kvs =>
    obtain ⟨hl, es, h1, h2, h3⟩ := h
    exact ⟨hl, es, (hb rfl hl).trans h1, h2, h3.mono hL⟩
  | dead => trivial

theorem MemOk.step {F : Fr} {g M w g' M' w'} (h : MemOk F g M w) (W : Nat → Prop)
    (hg : ∀ id gi, g id = some gi → g' id = some gi) (hdom : ∀ id gi, g' id = some gi → ∃ e, M' id = some e)
    (hW : ∀ b, b < w.heap.size → ¬ W b → w'.heap[b]? = w.heap[b]?) (hWA : ∀ b, Ok F g M w b → ¬ W b)
    (hio : ∀ b, W b → b < F.B → b ∈ F.io)
    (hsz : w.heap.size ≤ w'.heap.size) (hos : w'.os = w.os) (htape : w'.tape = w.tape) (hout : w'.output = w.output)
    (hent : Le g (Ok F g M w) w g' (Ok F g' M' w') w' → ∀ id e, M' id = some e →
      (M id = some e ∧ ∀ gi, g id = some gi → e.ex = true → gi.live = true → ¬ W gi.blk) ∨
      ∃ gi, g' id = some gi ∧ EntOk g' (Ok F g' M' w') w' gi e)
    (hnew : ∀ id e gi, M' id = some e → e.ex = true → g' id = some gi → gi.live = true → (M id = some e ∧ g id = some gi) ∨
      (gi.blk < w'.heap.size ∧ (gi.blk < F.B → gi.blk ∈ F.io) ∧ (F.np ≤ id → F.B ≤ gi.blk) ∧ ¬ Ok F g M w gi.blk))
    (hinj : ∀ i j ei ej gi gj, i ≠ j → M' i = some ei → M' j = some ej → ei.ex = true → ej.ex = true → g' i = some gi → g' j = some gj → gi.live = true → gj.live = true → gi.blk ≠ gj.blk)
    (hdr : w.drawn ≤ w'.drawn := by first | assumption | exact Nat.le_refl _ | exact Nat.le_succ _) :
    MemOk F g' M' w' ∧ Le g (Ok F g M w) w g' (Ok F g' M' w') w' := by
  have hL : Le g (Ok F g M w) w g' (Ok F g' M' w') w' := by
    refine ⟨hg, fun b hb => ⟨⟨Nat.lt_of_lt_of_le hb.1 hsz, hb.2.1, fun id e gi hm he hgi hlv hbe => ?_⟩, hW b hb.1 (hWA b hb)⟩⟩
    rcases hnew id e gi hm he hgi hlv with ⟨h1, h2⟩ | ⟨_, _, _, h4⟩
    · exact hb.2.2 id e gi h1 he h2 hlv hbe
    · exact h4 (hbe ▸ hb)
  refine ⟨⟨fun id e hm => ?_, hdom, hinj, fun i e gi hm he hgi hlv => ?_, fun i e gi hn hm he hgi hlv => ?_, Nat.le_trans h.size hsz, fun b hb hn => ?_, hos.trans h.os, htape.trans h.tape, hout.trans h.output, Nat.le_trans h.dr hdr, h.ioA, fun j b hb => let ⟨h0, gi, h1, h2⟩ := h.par j b hb; ⟨h0, gi, hg _ _ h1, h2⟩⟩, hL⟩
  · rcases hent hL id e hm with ⟨h1, h2⟩ | h1
    · obtain ⟨gi, hgi, hE⟩ := h.ent id e h1
      refine ⟨gi, hg _ _ hgi, hE.keep hL fun he hlv => ?_⟩
      exact hW _ (h.lo id e gi h1 he hgi hlv).1 (h2 gi hgi he hlv)
    · exact h1
  · rcases hnew i e gi hm he hgi hlv with ⟨h1, h2⟩ | ⟨h1, h2, _, _⟩
    · exact ⟨Nat.lt_of_lt_of_le (h.lo i e gi h1 he h2 hlv).1 hsz, (h.lo i e gi h1 he h2 hlv).2⟩
    · exact ⟨h1, h2⟩
  · rcases hnew i e gi hm he hgi hlv with ⟨h1, h2⟩ | ⟨_, _, h3, _⟩
    · exact h.hi i e gi hn h1 he h2 hlv
    · exact h3 hn
  · rw [hW b (Nat.lt_of_lt_of_le hb h.size) (fun hw => hn (hio b hw hb))]
    exact h.old b hb hn

theorem MemOk.gnone {F : Fr} {g M w} (h : MemOk F g M w) {f : Nat} (hf : M f = none) : g f = none := by
  cases hg : g f with
  | none => rfl
  | some gi => obtain ⟨e, he⟩ := h.dom f gi hg; simp [hf] at he

/-- Only draws: nothing of memory. -/
theorem MemOk.same {F : Fr} {g M w w'} (h : MemOk F g M w) (hh : w'.heap = w.heap) (hos : w'.os = w.os) (htape : w'.tape = w.tape) (hout : w'.output = w.output) (hdr : w.drawn ≤ w'.drawn := by first | assumption | exact Nat.le_refl _ | exact Nat.le_succ _) :
    MemOk F g M w' ∧ Le g (Ok F g M w) w g (Ok F g M w') w' :=
  h.step (fun _ => False) (fun _ _ h => h) h.dom (fun b _ _ => by rw [hh]) (fun _ _ h => h) (fun _ h => h.elim) (by rw [hh]; exact Nat.le_refl _) hos htape hout
    (fun _ id e he => .inl ⟨he, fun _ _ _ _ h => h⟩) (fun id e gi h1 _ h3 _ => .inl ⟨h1, h3⟩) h.inj hdr

/-- A new block. -/
theorem MemOk.alloc {F : Fr} {g M w} (h : MemOk F g M w) {f : Nat} (hf : M f = none) (o : Obj) (e : Ent) (gi : GI) (hb : gi.blk = w.heap.size)
    (he : Le g (Ok F g M w) w (upd g f (some gi)) (Ok F (upd g f (some gi)) (upd M f (some e)) { w with heap := w.heap.push o }) { w with heap := w.heap.push o } →
      EntOk (upd g f (some gi)) (Ok F (upd g f (some gi)) (upd M f (some e)) { w with heap := w.heap.push o }) { w with heap := w.heap.push o } gi e) :
    MemOk F (upd g f (some gi)) (upd M f (some e)) { w with heap := w.heap.push o } ∧
      Le g (Ok F g M w) w (upd g f (some gi)) (Ok F (upd g f (some gi)) (upd M f (some e)) { w with heap := w.heap.push o }) { w with heap := w.heap.push o } := by
  have hgf := h.gnone hf
  refine h.step (fun b => b = w.heap.size) (fun id gi' hg => ?_) (fun id gi' hg => ?_) (fun b hb' hn => ?_) (fun b hb' => ?_) (fun b hb' hlt => ?_) (by simp) rfl rfl rfl (fun hL id e' hm => ?_) (fun id e' gi' hm hx hg hlv => ?_) (fun i j ei ej gi' gj hij hi hj hxi hxj hgi hgj hlvi hlvj => ?_)
  · by_cases hid : id = f
    · subst hid; simp [hgf] at hg
    · simpa [upd, hid] using hg
  · by_cases hid : id = f
    · subst hid; exact ⟨e, by simp⟩
    · simp only [upd, hid, if_false] at hg ⊢; exact h.dom id gi' hg
  · simp [Array.getElem?_push, hn]
  · have := hb'.1; omega
  · have := h.size; unfold Fr.B at hlt; unfold Fr.B at this; omega
  · by_cases hid : id = f
    · subst hid
      simp only [upd_same, Option.some.injEq] at hm; subst hm
      exact .inr ⟨gi, by simp, he hL⟩
    · simp only [upd, hid, if_false] at hm
      exact .inl ⟨hm, fun gi' hg' hx hlv => by have := (h.lo id e' gi' hm hx hg' hlv).1; omega⟩
  · by_cases hid : id = f
    · subst hid
      simp only [upd_same, Option.some.injEq] at hm hg; subst hm; subst hg
      refine .inr ⟨by simp [hb], fun hlt => ?_, fun _ => by rw [hb]; exact h.size, fun hok => by have := hok.1; omega⟩
      have := h.size; unfold Fr.B at hlt this; omega
    · simp only [upd, hid, if_false] at hm hg
      exact .inl ⟨hm, hg⟩
  · by_cases hif : i = f
    · have hjf : j ≠ f := fun hjf => hij (hif.trans hjf.symm)
      subst hif
      simp only [upd_same, Option.some.injEq] at hgi; subst hgi
      simp only [upd, hjf, if_false] at hj hgj
      have := (h.lo j ej gj hj hxj hgj hlvj).1; omega
    · by_cases hjf : j = f
      · subst hjf
        simp only [upd_same, Option.some.injEq] at hgj; subst hgj
        simp only [upd, hif, if_false] at hi hgi
        have := (h.lo i ei gi' hi hxi hgi hlvi).1; omega
      · simp only [upd, hif, hjf, if_false] at hi hj hgi hgj
        exact h.inj i j ei ej gi' gj hij hi hj hxi hxj hgi hgj hlvi hlvj

/-- What an exclusive identity holds turns. -/
theorem MemOk.modify {F : Fr} {g M w w'} (h : MemOk F g M w) {i : Nat} {e e' : Ent} {gi : GI} (hi : M i = some e) (hx : e.ex = true) (hgi : g i = some gi) (hlv : gi.live = true)
    (hw : ∀ b, b ≠ gi.blk → w'.heap[b]? = w.heap[b]?) (hs : w'.heap.size = w.heap.size) (hos : w'.os = w.os) (htape : w'.tape = w.tape) (hout : w'.output = w.output)
    (hx' : e'.ex = true)
    (he : Le g (Ok F g M w) w g (Ok F g (upd M i (some e')) w') w' → EntOk g (Ok F g (upd M i (some e')) w') w' gi e')
    (hdr : w.drawn ≤ w'.drawn := by first | assumption | exact Nat.le_refl _ | exact Nat.le_succ _) :
    MemOk F g (upd M i (some e')) w' ∧ Le g (Ok F g M w) w g (Ok F g (upd M i (some e')) w') w' := by
  refine h.step (fun b => b = gi.blk) (fun _ _ h => h) (fun id gi' hg => ?_) (fun b _ hn => hw b hn) (fun b hb hbe => ?_) (fun b hb hlt => ?_) (by omega) hos htape hout (fun hL id e1 hm => ?_) (fun id e1 gi1 hm hx1 hg1 hl1 => ?_) (fun i1 j ei ej gi' gj hij h1 h2 hx1 hx2 hg1 hg2 hl1 hl2 => ?_)
  · by_cases hid : id = i
    · subst hid; exact ⟨e', by simp⟩
    · simp only [upd, hid, if_false]; exact h.dom id gi' hg
  · exact hb.2.2 i e gi hi hx hgi hlv hbe.symm
  · subst hb; exact (h.lo i e gi hi hx hgi hlv).2 hlt
  · by_cases hid : id = i
    · subst hid
      simp only [upd_same, Option.some.injEq] at hm; subst hm
      exact .inr ⟨gi, hgi, he hL⟩
    · simp only [upd, hid, if_false] at hm
      exact .inl ⟨hm, fun gi' hg' hx1 hl1 => h.inj id i e1 e gi' gi hid hm hi hx1 hx hg' hgi hl1 hlv⟩
  · by_cases hid : id = i
    · subst hid
      rw [hgi] at hg1; cases hg1
      refine .inr ⟨by rw [hs]; exact (h.lo id e gi hi hx hgi hlv).1, (h.lo id e gi hi hx hgi hlv).2, fun hn => h.hi id e gi hn hi hx hgi hlv, fun hok => hok.2.2 id e gi hi hx hgi hlv rfl⟩
    · simp only [upd, hid, if_false] at hm
      exact .inl ⟨hm, hg1⟩
  · have key : ∀ k ek, upd M i (some e') k = some ek → ek.ex = true → ∃ e0, M k = some e0 ∧ e0.ex = true := by
      intro k ek hk hxk
      by_cases hki : k = i
      · subst hki; exact ⟨e, hi, hx⟩
      · simp only [upd, hki, if_false] at hk; exact ⟨ek, hk, hxk⟩
    obtain ⟨e1, a1, b1⟩ := key i1 ei h1 hx1
    obtain ⟨e2, a2, b2⟩ := key j ej h2 hx2
    exact h.inj i1 j e1 e2 gi' gj hij a1 a2 b1 b2 hg1 hg2 hl1 hl2

/-- An identity is given up, or a row of the call's own is frozen. -/
theorem MemOk.calm {F : Fr} {g M w} (h : MemOk F g M w) {i : Nat} {e e' : Ent} (hi : M i = some e) (hx' : e'.ex = false)
    (he : ∀ gi, g i = some gi → Le g (Ok F g M w) w g (Ok F g (upd M i (some e')) w) w → EntOk g (Ok F g (upd M i (some e')) w) w gi e') :
    MemOk F g (upd M i (some e')) w ∧ Le g (Ok F g M w) w g (Ok F g (upd M i (some e')) w) w := by
  refine h.step (fun _ => False) (fun _ _ h => h) (fun id gi' hg => ?_) (fun b _ hn => rfl) (fun b hb hbe => hbe) (fun b hb hlt => hb.elim) (by omega) rfl rfl rfl (fun hL id e1 hm => ?_) (fun id e1 gi1 hm hx1 hg1 hl1 => ?_) (fun i1 j ei ej gi' gj hij h1 h2 hx1 hx2 hg1 hg2 hl1 hl2 => ?_)
  · by_cases hid : id = i
    · subst hid; exact ⟨e', by simp⟩
    · simp only [upd, hid, if_false]; exact h.dom id gi' hg
  · by_cases hid : id = i
    · subst hid
      simp only [upd_same, Option.some.injEq] at hm; subst hm
      obtain ⟨gi, hgi, _⟩ := h.ent id e hi
      exact .inr ⟨gi, hgi, he gi hgi hL⟩
    · simp only [upd, hid, if_false] at hm
      exact .inl ⟨hm, fun gi' hg' hx1 hl1 h => h⟩
  · by_cases hid : id = i
    · subst hid
      simp only [upd_same, Option.some.injEq] at hm; subst hm
      simp [hx'] at hx1
    · simp only [upd, hid, if_false] at hm
      exact .inl ⟨hm, hg1⟩
  · have key : ∀ k ek, upd M i (some e') k = some ek → ek.ex = true → M k = some ek := by
      intro k ek hk hxk
      by_cases hki : k = i
      · subst hki; simp only [upd_same, Option.some.injEq] at hk; subst hk; simp [hx'] at hxk
      · simpa only [upd, hki, if_false] using hk
    exact h.inj i1 j ei ej gi' gj hij (key i1 ei h1 hx1) (key j ej h2 hx2) hx1 hx2 hg1 hg2 hl1 hl2

theorem MemOk.kill {F : Fr} {g M w} (h : MemOk F g M w) {i : Nat} {e : Ent} (hi : M i = some e) :
    MemOk F g (upd M i (some .dead)) w ∧ Le g (Ok F g M w) w g (Ok F g (upd M i (some .dead)) w) w :=
  h.calm hi rfl fun _ _ _ => trivial

theorem MemOk.freeze {F : Fr} {g M w} (h : MemOk F g M w) {i sz : Nat} {es : List (List D)} (hi : M i = some (.row sz es true)) (hn : F.np ≤ i) :
    MemOk F g (upd M i (some (.row sz es false))) w ∧ Le g (Ok F g M w) w g (Ok F g (upd M i (some (.row sz es false))) w) w := by
  refine h.calm hi rfl fun gi hgi hL => ?_
  obtain ⟨gi', hgi', hE⟩ := h.ent i _ hi
  rw [hgi] at hgi'; cases hgi'
  obtain ⟨h0, h1, h2, h3, hz, hA⟩ := hE
  refine ⟨h0, h1, h2, h3, hz, fun hlv => ?_⟩
  obtain ⟨hA, c, T, h4, h5, h6⟩ := hA hlv
  refine ⟨fun _ => ?_, c, T, h4, h5, fun i j e d u a b c => (h6 i j e d u a b c).mono hL.A⟩
  have hlo := h.lo i _ gi hi rfl hgi hlv
  refine ⟨hlo.1, fun hlt => ?_, fun id e gi2 hm hx hg2 hl2 hbe => ?_⟩
  · have := h.hi i _ gi hn hi rfl hgi hlv; unfold Fr.B at hlt this; omega
  · by_cases hid : id = i
    · subst hid; simp only [upd_same, Option.some.injEq] at hm; subst hm; simp [Ent.ex] at hx
    · simp only [upd, hid, if_false] at hm
      exact h.inj id i e _ gi2 gi hid hm hi hx rfl hg2 hgi hl2 hlv hbe

/-- What an exclusive identity held goes over to a new identity, in the same block. -/
theorem MemOk.move {F : Fr} {g M w w'} (h : MemOk F g M w) {i f : Nat} {e e' : Ent} {gi gi' : GI} (hi : M i = some e) (hx : e.ex = true) (hgi : g i = some gi) (hlv : gi.live = true) (hn : F.np ≤ i)
    (hf : M f = none) (hb : gi'.blk = gi.blk)
    (hw : ∀ b, b ≠ gi.blk → w'.heap[b]? = w.heap[b]?) (hs : w'.heap.size = w.heap.size) (hos : w'.os = w.os) (htape : w'.tape = w.tape) (hout : w'.output = w.output)
    (he : Le g (Ok F g M w) w (upd g f (some gi')) (Ok F (upd g f (some gi')) (upd (upd M i (some .dead)) f (some e')) w') w' →
      EntOk (upd g f (some gi')) (Ok F (upd g f (some gi')) (upd (upd M i (some .dead)) f (some e')) w') w' gi' e')
    (hdr : w.drawn ≤ w'.drawn := by first | assumption | exact Nat.le_refl _ | exact Nat.le_succ _) :
    MemOk F (upd g f (some gi')) (upd (upd M i (some .dead)) f (some e')) w' ∧
      Le g (Ok F g M w) w (upd g f (some gi')) (Ok F (upd g f (some gi')) (upd (upd M i (some .dead)) f (some e')) w') w' := by
  have hgf := h.gnone hf
  have hfi : f ≠ i := fun hh => by subst hh; simp [hf] at hi
  have hlo := h.lo i e gi hi hx hgi hlv
  refine h.step (fun b => b = gi.blk) (fun id gi1 hg => ?_) (fun id gi1 hg => ?_) (fun b _ hn => hw b hn) (fun b hb' hbe => ?_) (fun b hb' hlt => ?_) (by omega) hos htape hout (fun hL id e1 hm => ?_) (fun id e1 gi1 hm hx1 hg1 hl1 => ?_) (fun i1 j ei ej gi1 gj hij h1 h2 hx1 hx2 hg1 hg2 hl1 hl2 => ?_)
  · by_cases hid : id = f
    · subst hid; simp [hgf] at hg
    · simpa [upd, hid] using hg
  · by_cases hid : id = f
    · subst hid; exact ⟨e', by simp⟩
    · by_cases hid2 : id = i
      · subst hid2; exact ⟨.dead, by simp [upd, hid]⟩
      · simp only [upd, hid, hid2, if_false] at hg ⊢; exact h.dom id gi1 hg
  · exact hb'.2.2 i e gi hi hx hgi hlv hbe.symm
  · subst hb'; exact hlo.2 hlt
  · by_cases hid : id = f
    · subst hid
      simp only [upd_same, Option.some.injEq] at hm; subst hm
      exact .inr ⟨gi', by simp, he hL⟩
    · by_cases hid2 : id = i
      · subst hid2
        simp only [upd, hid, if_false, if_true, Option.some.injEq] at hm; subst hm
        exact .inr ⟨gi, by simpa [upd, hid] using hgi, trivial⟩
      · simp only [upd, hid, hid2, if_false] at hm
        exact .inl ⟨hm, fun gi1 hg1 hx1 hl1 => h.inj id i e1 e gi1 gi hid2 hm hi hx1 hx hg1 hgi hl1 hlv⟩
  · by_cases hid : id = f
    · subst hid
      simp only [upd_same, Option.some.injEq] at hm hg1; subst hm; subst hg1
      refine .inr ⟨by rw [hb, hs]; exact hlo.1, by rw [hb]; exact hlo.2, fun _ => by rw [hb]; exact h.hi i e gi hn hi hx hgi hlv, fun hok => hok.2.2 i e gi hi hx hgi hlv hb.symm⟩
    · by_cases hid2 : id = i
      · subst hid2
        simp only [upd, hid, if_false, if_true, Option.some.injEq] at hm; subst hm; simp [Ent.ex] at hx1
      · simp only [upd, hid, hid2, if_false] at hm hg1
        exact .inl ⟨hm, hg1⟩
  · have key : ∀ k ek gk, upd (upd M i (some .dead)) f (some e') k = some ek → ek.ex = true → upd g f (some gi') k = some gk →
        (k = f ∧ gk.blk = gi.blk) ∨ (k ≠ f ∧ k ≠ i ∧ M k = some ek ∧ g k = some gk) := by
      intro k ek gk hk hxk hgk
      by_cases hkf : k = f
      · subst hkf; simp only [upd_same, Option.some.injEq] at hgk; subst hgk; exact .inl ⟨rfl, hb⟩
      · by_cases hki : k = i
        · subst hki; simp only [upd, hkf, if_false, if_true, Option.some.injEq] at hk; subst hk; simp [Ent.ex] at hxk
        · simp only [upd, hkf, hki, if_false] at hk hgk; exact .inr ⟨hkf, hki, hk, hgk⟩
    rcases key i1 ei gi1 h1 hx1 hg1 with ⟨a, a2⟩ | ⟨a, a2, a3, a4⟩ <;> rcases key j ej gj h2 hx2 hg2 with ⟨b, b2⟩ | ⟨b, b2, b3, b4⟩
    · exact absurd (a.trans b.symm) hij
    · rw [a2]; exact h.inj i j e ej gi gj (fun hh => b2 hh.symm) hi b3 hx hx2 hgi b4 hlv hl2
    · rw [b2]; exact h.inj i1 i ei e gi1 gi a2 a3 hi hx1 hx a4 hgi hl1 hlv
    · exact h.inj i1 j ei ej gi1 gj hij a3 b3 hx1 hx2 a4 b4 hl1 hl2

end Go.Abs

/- The abstract machine, third part: what each operation does to a state. -/
set_option linter.unusedVariables false
set_option linter.unusedSimpArgs false
namespace Go.Abs
open Go

abbrev Mem := Nat → Option Ent

/-- An argument as the callee sees it: by value, or a variable that the callee may turn. -/
inductive AD where
  | d (x : D)
  | io (cs : List D)
  deriving Inhabited

/-- A result: by value; a row, or a variable, of the callee's making. -/
inductive RD where
  | d (x : D)
  | own (sz : Nat) (es : List (List D))
  | nbox (cs : List D)
  | omap (kvs : List (D × D))
  deriving Inhabited

structure Res where
  ret : List RD
  io : List (List D)
  deriving Inhabited

/-- What the machine knows by itself: a sort (of how many cells an element is, whether it is an aggregate); slices.Insert of one element (cells, bytes); slices.Delete of one. -/
inductive Sp where
  | srt (k : Nat) (ag : Bool)
  | ins (k by' : Nat)
  | del (k : Nat)

/-- A contract of a function. -/
structure Con where
  α : Type
  kinds : List Bool
  args : α → List AD
  pre : α → Prop
  post : α → Res → Prop
  clean : Bool
  srt : Option Sp := none

def mapO {α β : Type} (f : α → Option β) : List α → Option (List β)
  | [] => some []
  | x :: l => match f x, mapO f l with
    | some y, some l' => some (y :: l')
    | _, _ => none

def isCell : D → Bool
  | .agg _ | .tup _ | .junk => false
  | _ => true

def cellsD : D → List D
  | .agg cs => cs
  | d => [d]

def cellD : Value → D
  | .slice none 0 0 => .nils
  | x => if flat x then .v x else .junk

def constD : Value → D
  | .agg cs => .agg (cs.toList.map cellD)
  | x => cellD x

/-- By value; 'b': also what is exclusive. -/
def fz0 (M : Mem) (b : Bool) : D → Option D
  | .v x => some (.v x)
  | .nils => some .nils
  | .sl sz es => some (.sl sz es)
  | .rp sz es i off => some (.rp sz es i off)
  | .row id => match M id with
    | some (.row sz es ex) => if ex && !b then none else some (.sl sz es)
    | _ => none
  | .vw id off n => match M id with
    | some (.row sz es ex) => if ex && !b then none else some (.sl sz ((es.drop off).take n))
    | _ => none
  | .elt id i off => match M id with
    | some (.row sz es ex) => if ex && !b then none else some (.rp sz es i off)
    | _ => none
  | _ => none

def fz (M : Mem) (b : Bool) : Nat → D → Option D
  | 0, d => fz0 M b d
  | n + 1, .box id off => match M id with
    | some (.cells cs) => if b then (match mapO (fz M b n) cs with | some cs' => some (.rp cs.length [cs'] 0 off) | none => none) else none
    | _ => none
  | n + 1, .fn f x y => match mapO (fz M b n) x, mapO (fz M b n) y with
    | some x', some y' => some (.fn f x' y')
    | _, _ => none
  | n + 1, .agg cs => match mapO (fz M b n) cs with | some cs' => some (.agg cs') | none => none
  | n + 1, d => fz0 M b d

/-- Rows that a value bears are frozen. -/
def frz1 (np : Nat) (M : Mem) (id : Nat) : Mem :=
  match M id with
  | some (.row sz es true) => if np ≤ id then upd M id (some (.row sz es false)) else M
  | _ => M
def frz0 (np : Nat) (M : Mem) : D → Mem
  | .row id => frz1 np M id
  | .vw id _ _ => frz1 np M id
  | .elt id _ _ => frz1 np M id
  | _ => M
def frzL (np : Nat) : Mem → List D → Mem
  | M, [] => M
  | M, d :: l => frzL np (frz0 np M d) l
def frz (np : Nat) (M : Mem) : D → Mem
  | .agg cs => frzL np M cs
  | .box id _ => match M id with
    | some (.cells cs) => frzL np M cs
    | _ => M
  | d => frz0 np M d
def frzA (np : Nat) : Mem → List D → Mem
  | M, [] => M
  | M, d :: l => frzA np (frz np M d) l

def splice (cs : List D) (off : Nat) (ds : List D) : List D := cs.take off ++ ds ++ cs.drop (off + ds.length)

/-- Of a type: the cells of its zero value; how many they are; whether it is an aggregate; a slice's element type. -/
def zc (P : Program) (t : TypeId) : Option (List D) := (P.info? t).bind fun i => i.zero.map fun z => z.cells.toList.map cellD
def szT (P : Program) (t : TypeId) : Option Nat := (P.info? t).map (·.size)
def byT (P : Program) (t : TypeId) : Option Nat := (P.info? t).map (·.bytes)
def agT (P : Program) (t : TypeId) : Option Bool := (P.underlying t).map fun | .struct _ | .array _ _ => true | _ => false
def elT (P : Program) (t : TypeId) : Option TypeId := match P.underlying t with | some (.slice e) => some e | _ => none
def arT (P : Program) (t : TypeId) : Option (Nat × TypeId) := match P.underlying t with | some (.array n e) => some (n, e) | _ => none
def inT (P : Program) (t : TypeId) : Option IntKind := match P.underlying t with | some (.int k) => some k | _ => none
/-- A field: where it lies, its type. -/
def foT (P : Program) (t : TypeId) (f : Nat) : Option (Nat × TypeId) := match P.underlying t with | some (.struct fs) => (fs[f]?).map fun x => (x.offset, x.type) | _ => none

def semPick (c a b : D) (M : Mem) (nx : D → Mem → Prop) : Prop :=
  match c with
  | .v (.bool t) => (t = true → nx a M) ∧ (t = false → nx b M)
  | _ => False

def semAlloc (P : Program) (t : TypeId) (M : Mem) (fid : Nat) (nx : D → Mem → Prop) : Prop :=
  match zc P t with
  | some cs => cs.all isCell = true ∧ M fid = none ∧ nx (.box fid 0) (upd M fid (some (.cells cs)))
  | none => False

def semBox (d : D) (M : Mem) (fid : Nat) (nx : D → Mem → Prop) : Prop :=
  (cellsD d).all isCell = true ∧ M fid = none ∧ nx (.box fid 0) (upd M fid (some (.cells (cellsD d))))

def getCell (cs : List D) (off : Nat) (M : Mem) (nx : D → Mem → Prop) : Prop :=
  match cs[off]? with
  | some x => nx x M
  | none => False
def getCells (ag : Bool) (n : Nat) (cs : List D) (off : Nat) (M : Mem) (nx : D → Mem → Prop) : Prop :=
  if ag then off + n ≤ cs.length ∧ nx (.agg ((cs.drop off).take n)) M else getCell cs off M nx

def semLoad (P : Program) (t : TypeId) (p : D) (M : Mem) (nx : D → Mem → Prop) : Prop :=
  match agT P t, szT P t with
  | some ag, some n => match p with
    | .box id off => match M id with
      | some (.cells cs) => getCells ag n cs off M nx
      | _ => False
    | .elt id i off => match M id with
      | some (.row sz es _) => match es[i]? with
        | some e => getCells ag n e off M nx
        | none => False
      | _ => False
    | .rp sz es i off => match es[i]? with
      | some e => getCells ag n e off M nx
      | none => False
    | _ => False
  | _, _ => False

def semStore (P : Program) (np : Nat) (t : TypeId) (p d : D) (M : Mem) (nx : D → Mem → Prop) : Prop :=
  szT P t = some (cellsD d).length ∧ (cellsD d).all isCell = true ∧
  match p with
  | .box id off => match M id with
    | some (.cells cs) => off + (cellsD d).length ≤ cs.length ∧ nx .junk (upd M id (some (.cells (splice cs off (cellsD d)))))
    | _ => False
  | .elt id i off =>
    let M' := frz np M d
    match M' id, mapO (fz M' false 1) (cellsD d) with
    | some (.row sz es true), some ds => match es[i]? with
      | some e => off + ds.length ≤ sz ∧ nx .junk (upd M' id (some (.row sz (es.set i (splice e off ds)) true)))
      | none => False
    | _, _ => False
  | _ => False

def fillD (place : Nat → Option (Nat × Nat)) (cs : List D) : List (Nat × D) → Option (List D)
  | [] => some cs
  | (i, d) :: l => match place i with
    | some (off, n) => if (cellsD d).length = n ∧ off + n ≤ cs.length then fillD place (splice cs off (cellsD d)) l else none
    | none => none

def placeT (P : Program) (t : TypeId) (i : Nat) : Option (Nat × Nat) :=
  match foT P t i with
  | some (off, ft) => match szT P ft with
    | some n => some (off, n)
    | none => none
  | none => match arT P t with
    | some (_, e) => match szT P e with
      | some n => some (i * n, n)
      | none => none
    | none => none

def semBuild (P : Program) (t : TypeId) (parts : List (Nat × D)) (M : Mem) (nx : D → Mem → Prop) : Prop :=
  match zc P t with
  | some zs => match fillD (placeT P t) zs parts with
    | some cs => nx (.agg cs) M
    | none => False
  | none => False

def semFieldAddr (P : Program) (t : TypeId) (p : D) (f : Nat) (M : Mem) (nx : D → Mem → Prop) : Prop :=
  match foT P t f with
  | some (fo, ft) => (match szT P ft with | some (_ + 1) => True | _ => False) ∧ match p with
    | .box id off => nx (.box id (off + fo)) M
    | .elt id i off => nx (.elt id i (off + fo)) M
    | .rp sz es i off => nx (.rp sz es i (off + fo)) M
    | _ => False
  | none => False

def semField (P : Program) (t : TypeId) (d : D) (f : Nat) (M : Mem) (nx : D → Mem → Prop) : Prop :=
  match foT P t f, d with
  | some (fo, ft), .agg cs => match agT P ft, szT P ft with
    | some ag, some n => getCells ag n cs fo M nx
    | _, _ => False
  | _, _ => False

/-- A slice that can be read: size and elements. -/
def rowsOf (M : Mem) : D → Option (Nat × List (List D))
  | .nils => some (0, [])
  | .sl sz es => some (sz, es)
  | .row id => match M id with
    | some (.row sz es _) => some (sz, es)
    | _ => none
  | .vw id off n => match M id with
    | some (.row sz es _) => some (sz, (es.drop off).take n)
    | _ => none
  | _ => none

def semIndexAddr (P : Program) (t : TypeId) (x i : D) (M : Mem) (nx : D → Mem → Prop) : Prop :=
  match i with
  | .v (.int _ n) => match elT P t, arT P t with
    | some e, _ => match szT P e, x with
      | some s, .sl sz es => s = sz ∧ (0 ≤ n ∧ n < es.length) ∧ nx (.rp sz es n.toNat 0) M
      | some s, .row id => match M id with
        | some (.row sz es _) => s = sz ∧ (0 ≤ n ∧ n < es.length) ∧ nx (.elt id n.toNat 0) M
        | _ => False
      | some s, .vw id off k => match M id with
        | some (.row sz es _) => s = sz ∧ (0 ≤ n ∧ n < k) ∧ nx (.elt id (off + n.toNat) 0) M
        | _ => False
      | _, _ => False
    | none, some (len, e) => match szT P e with
      | some s => (0 ≤ n ∧ n < len) ∧ match x with
        | .box id off => nx (.box id (off + n.toNat * s)) M
        | .elt id i off => nx (.elt id i (off + n.toNat * s)) M
        | .rp sz es i off => nx (.rp sz es i (off + n.toNat * s)) M
        | _ => False
      | none => False
    | _, _ => False
  | _ => False

def semIndex (P : Program) (t : TypeId) (x i : D) (M : Mem) (nx : D → Mem → Prop) : Prop :=
  match i, x with
  | .v (.int _ n), .v (.string s) => (P.underlying t).isSome = true ∧ (match P.underlying t with | some .string => True | _ => False) ∧ (0 ≤ n ∧ n < s.size) ∧ ∀ h : n.toNat < s.size, nx (.v (.int .u8 (s[n.toNat]'h).toNat)) M
  | _, _ => False

/-- '==' of two aggregates of cells that can be compared at sight. -/
def eqCells : List D → List D → Option Bool
  | [], [] => some true
  | .v (.int k a) :: l, .v (.int k' b) :: r => if k = k' then (eqCells l r).map fun t => a == b && t else none
  | .v (.bool a) :: l, .v (.bool b) :: r => (eqCells l r).map fun t => a == b && t
  | .v (.string a) :: l, .v (.string b) :: r => (eqCells l r).map fun t => a == b && t
  | _, _ => none

def intBin (op : BinOp) (k : IntKind) (a b : Int) : Option Value :=
  match op with
  | .add => some (.int k (k.wrap (a + b)))
  | .sub => some (.int k (k.wrap (a - b)))
  | .mul => some (.int k (k.wrap (a * b)))
  | .eql => some (.bool (a == b))
  | .neq => some (.bool (a != b))
  | .lss => some (.bool (a < b))
  | .leq => some (.bool (a ≤ b))
  | .gtr => some (.bool (a > b))
  | .geq => some (.bool (a ≥ b))
  | _ => none

def retD (fid : Nat) : List RD → List D
  | [] => []
  | .d x :: l => x :: retD (fid + 1) l
  | .own _ _ :: l => .row fid :: retD (fid + 1) l
  | .nbox _ :: l => .box fid 0 :: retD (fid + 1) l
  | .omap _ :: l => .mp fid :: retD (fid + 1) l
def retM (fid : Nat) (M : Mem) : List RD → Mem
  | [] => M
  | .d _ :: l => retM (fid + 1) M l
  | .own sz es :: l => retM (fid + 1) (upd M fid (some (.row sz es true))) l
  | .nbox cs :: l => retM (fid + 1) (upd M fid (some (.cells cs))) l
  | .omap kvs :: l => retM (fid + 1) (upd M fid (some (.map kvs true))) l
def tupD : List D → D
  | [d] => d
  | l => .tup l

def argsV (M : Mem) (ds : List D) : Option (List AD) := (mapO (fz M true 4) ds).map (·.map .d)
def consAD (x : Option AD) (r : Option (List AD)) : Option (List AD) :=
  match x, r with
  | some d, some l => some (d :: l)
  | _, _ => none
def ioArg (M : Mem) (id : Nat) : Option AD :=
  match M id with
  | some (.cells cs) => (mapO (fz M false 1) cs).map .io
  | _ => none
def argsF (M : Mem) : List Bool → List D → Option (List AD)
  | _, [] => some []
  | true :: ks, .box id 0 :: l => consAD (ioArg M id) (argsF M ks l)
  | ks, d :: l => consAD ((fz M false 1 d).map .d) (argsF M ks.tail l)
def ioIds : List Bool → List D → List Nat
  | true :: ks, .box id 0 :: l => id :: ioIds ks l
  | _ :: ks, _ :: l => ioIds ks l
  | _, _ => []
def ioM (M : Mem) : List Nat → List (List D) → Mem
  | id :: l, cs :: r => ioM (upd M id (some (.cells cs))) l r
  | _, _ => M

def valE (ag : Bool) (e : List D) : D := if ag then .agg e else e.headD .junk

/-- A sort of a row that is the caller's own. -/
def semSort (K : FuncId → Option Con) (k : Nat) (ag : Bool) (x cmp : D) (M : Mem) (nx : D → Mem → Prop) : Prop :=
  match x, cmp with
  | .nils, _ => nx (.tup []) M
  | .row id, .fn g [] caps => match M id, K g with
    | some (.row sz es true), some c => sz = k ∧ 0 < k ∧ c.clean = true ∧ c.srt = none ∧ es.length < 4611686018427387904 ∧ ∃ cf : List D → List D → Int,
      ((∀ x, x ∈ es → ¬ cf x x < 0) ∧ (∀ x y z, x ∈ es → y ∈ es → z ∈ es → cf x y < 0 → cf y z < 0 → cf x z < 0) ∧ (∀ x y z, x ∈ es → y ∈ es → z ∈ es → ¬ cf x y < 0 → ¬ cf y z < 0 → ¬ cf x z < 0)) ∧
      (∀ e1 e2, e1 ∈ es → e2 ∈ es → ∃ a, argsV (upd M id none) (valE ag e1 :: valE ag e2 :: caps) = some (c.args a) ∧ c.pre a ∧ ∀ r, c.post a r → r = ⟨[.d (.v (.int .i64 (cf e1 e2)))], []⟩) ∧
      ∀ es', es'.Perm es → es'.Pairwise (fun a b => ¬ cf b a < 0) → nx (.tup []) (upd M id (some (.row sz es' true)))
    | _, _ => False
  | _, _ => False

/-- One element put into a row that is the caller's own. -/
def semIns (np k by' : Nat) (x : D) (i : Int) (y : D) (M : Mem) (fid : Nat) (nx : D → Mem → Prop) : Prop :=
  match y with
  | .row idv => match M idv with
    | some (.row k' [e] _) => k' = k ∧ 0 < k ∧ M fid = none ∧ match x with
      | .nils => i = 0 ∧ by' ≤ 140737488355328 ∧ nx (.row fid) (upd M fid (some (.row k [e] true)))
      | .row id => id ≠ idv ∧ np ≤ id ∧ match M id with
        | some (.row sz es true) => sz = k ∧ (0 ≤ i ∧ i ≤ es.length) ∧ (es.length + 1) * by' ≤ 140737488355328 ∧
          nx (.row fid) (upd (upd M id (some .dead)) fid (some (.row k (es.take i.toNat ++ [e] ++ es.drop i.toNat) true)))
        | _ => False
      | _ => False
    | _ => False
  | _ => False
/-- One element taken out. -/
def semDel (np k : Nat) (x : D) (i j : Int) (M : Mem) (fid : Nat) (nx : D → Mem → Prop) : Prop :=
  match x with
  | .row id => match M id with
    | some (.row sz es true) => sz = k ∧ 0 < k ∧ np ≤ id ∧ M fid = none ∧ es.length ≤ 4611686018427387904 ∧ j = i + 1 ∧ (0 ≤ i ∧ i < es.length) ∧
      nx (.row fid) (upd (upd M id (some .dead)) fid (some (.row k (es.take i.toNat ++ es.drop (i.toNat + 1)) true)))
    | _ => False
  | _ => False

def semCall (K : FuncId → Option Con) (np : Nat) (f : FuncId) (ds : List D) (M : Mem) (fid : Nat) (nx : D → Mem → Prop) : Prop :=
  match K f with
  | some c => match c.srt with
    | some (.srt k ag) => match ds with
      | [x, cmp] => semSort K k ag x cmp M nx
      | _ => False
    | some (.ins k by') => match ds with
      | [x, .v (.int .i64 i), y] => semIns np k by' x i y M fid nx
      | _ => False
    | some (.del k) => match ds with
      | [x, .v (.int .i64 i), .v (.int .i64 j)] => semDel np k x i j M fid nx
      | _ => False
    | none =>
    if c.clean then ∃ a, argsV M ds = some (c.args a) ∧ c.pre a ∧ ∀ r, c.post a r → (∀ j, j < r.ret.length → M (fid + j) = none) ∧ nx (tupD (retD fid r.ret)) (retM fid M r.ret)
    else (ioIds c.kinds ds).Nodup ∧ ∃ a, argsF (frzA np M ds) c.kinds ds = some (c.args a) ∧ c.pre a ∧ ∀ r, c.post a r → (∀ j, j < r.ret.length → M (fid + j) = none) ∧
      nx (tupD (retD fid r.ret)) (retM fid (ioM (frzA np M ds) (ioIds c.kinds ds) r.io) r.ret)
  | none => False

end Go.Abs

/- The abstract machine, fourth part: each operation does in the model what it does to the state. -/
set_option linter.unusedVariables false
set_option linter.unusedSimpArgs false
namespace Go.Abs
open Go

/-- The model's step arrives where the state's step says. -/
def SR (F : Fr) (g : Nat → Option GI) (M : Mem) (w : World) (nx : D → Mem → Prop) (v : Value) (w' : World) : Prop :=
  ∃ d M' g', nx d M' ∧ MemOk F g' M' w' ∧ Le g (Ok F g M w) w g' (Ok F g' M' w') w' ∧ Tv g' (Ok F g' M' w') w' d v

theorem SR.plain {F : Fr} {g M w nx} {d : D} {v : Value} (hM : MemOk F g M w) (hn : nx d M) (hv : Tv g (Ok F g M w) w d v) : SR F g M w nx v w :=
  ⟨d, M, g, hn, hM, Le.refl _ _ _, hv⟩

theorem SR.drawn {F : Fr} {g M w nx} {d : D} {v : Value} (hM : MemOk F g M w) (hn : nx d M) (hv : Tv g (Ok F g M w) w d v) (w' : World)
    (hh : w'.heap = w.heap) (hos : w'.os = w.os) (htape : w'.tape = w.tape) (hout : w'.output = w.output) (hdr : w.drawn ≤ w'.drawn := by first | assumption | exact Nat.le_refl _ | exact Nat.le_succ _) : SR F g M w nx v w' := by
  obtain ⟨h1, h2⟩ := hM.same hh hos htape hout
  exact ⟨d, M, g, hn, h1, h2, hv.mono h2⟩

theorem SR.then {F : Fr} {g M w nx v w1 g1 M1} (h1 : MemOk F g1 M1 w1) (hL : Le g (Ok F g M w) w g1 (Ok F g1 M1 w1) w1) {w' : World} (h : SR F g1 M1 w1 nx v w') : SR F g M w nx v w' := by
  obtain ⟨d, M', g', a, b, c, e⟩ := h
  exact ⟨d, M', g', a, b, hL.trans c, e⟩

theorem Tc.isCell {g A w d u} (h : Tc g A w d u) : isCell d = true := by
  cases h with
  | c d u h => cases h <;> rfl
  | _ => rfl

theorem cellD_ok {A : Nat → Prop} {w : World} {x : Value} (h : isCell (cellD x) = true) : Rc A w (cellD x) x := by
  unfold cellD at h ⊢
  split
  · exact .nils
  · split at h
    · exact (by simp_all)
    · split at h
      · rename_i hf; rw [if_pos hf]; exact .v x hf
      · simp [isCell] at h

theorem Tv.cell {g A w d u} (h : Tv g A w d u) (hc : isCell d = true) : Tc g A w d u := by
  cases h with
  | c d u h => exact h
  | agg => simp [Abs.isCell] at hc
  | tup => simp [Abs.isCell] at hc
  | junk => simp [Abs.isCell] at hc

/-- The cells of a value. -/
theorem Tv.cells {g A w d u} (h : Tv g A w d u) (hc : (cellsD d).all isCell = true) :
    u.cells.size = (cellsD d).length ∧ ∀ (i : Nat) d' u', (cellsD d)[i]? = some d' → u.cells[i]? = some u' → Tc g A w d' u' := by
  cases h with
  | c d u h =>
    have h1 := h.isCell
    have h2 : cellsD d = [d] := by cases d <;> simp_all [Abs.isCell, cellsD]
    have h3 : u.cells = #[u] := by have := h.one; cases u <;> simp_all [Value.cells, Value.oneCell']
    rw [h2, h3]
    refine ⟨rfl, fun i d' u' a b => ?_⟩
    cases i with
    | zero => simp at a b; subst a; subst b; exact h
    | succ i => simp at a
  | agg cs us hl hr => exact ⟨hl, hr⟩
  | tup ds us hl hr => simp [cellsD, Abs.isCell] at hc
  | junk u => simp [cellsD, Abs.isCell] at hc

theorem zc_spec {P : Program} {t : TypeId} {cs : List D} (h : zc P t = some cs) : ∃ i z, P.info? t = some i ∧ i.zero = some z ∧ cs = z.cells.toList.map cellD := by
  unfold zc at h
  cases hi : P.info? t with
  | none => simp [hi] at h
  | some i =>
    cases hz : i.zero with
    | none => simp [hi, hz] at h
    | some z => simp [hi, hz] at h; exact ⟨i, z, rfl, hz, h.symm⟩

theorem run_zeroValue {P : Program} {t : TypeId} {i : TypeInfo} {z : Value} (hi : P.info? t = some i) (hz : i.zero = some z) (w : World) : (zeroValue t).run P w = .ok z w := by
  simp [zeroValue, typeInfo, hi, hz]
theorem run_sizeOf' {P : Program} {t : TypeId} {n : Nat} (h : szT P t = some n) (w : World) : (sizeOf t).run P w = .ok n w := by
  unfold szT at h
  cases hi : P.info? t with
  | none => simp [hi] at h
  | some i => simp [hi] at h; simp [sizeOf, typeInfo, hi, h]
theorem run_isAgg' {P : Program} {t : TypeId} {b : Bool} (h : agT P t = some b) (w : World) : (isAgg t).run P w = .ok b w := by
  unfold agT at h
  cases hi : P.underlying t with
  | none => simp [hi] at h
  | some d => cases d <;> simp [hi] at h <;> subst h <;> simp [isAgg, underlying, hi]

/-- A new variable with the cells of a value. -/
theorem new_cells {F : Fr} {g M w} (hM : MemOk F g M w) {fid : Nat} (hf : M fid = none) (c : Array Value) (T : TypeId) (cs : List D) (hl : c.size = cs.length)
    (hr : ∀ (i : Nat) d u, cs[i]? = some d → c[i]? = some u → Tc g (Ok F g M w) w d u) (nx : D → Mem → Prop) (hn : nx (.box fid 0) (upd M fid (some (.cells cs)))) :
    SR F g M w nx (.pointer (some ⟨w.heap.size, 0, none⟩)) { w with heap := w.heap.push (.cells c T (0, 0)) } := by
  obtain ⟨h1, h2⟩ := hM.alloc hf (.cells c T (0, 0)) (.cells cs) ⟨w.heap.size, c.size, 0, 0, true⟩ rfl
    (fun hL => ⟨rfl, c, T, by simp, hl, fun i d u a b => (hr i d u a b).mono hL⟩)
  exact ⟨_, _, _, hn, h1, h2, .c _ _ (.box fid 0 ⟨w.heap.size, c.size, 0, 0, true⟩ (by simp))⟩

theorem alloc_ok {P : Program} {F : Fr} {g M w} (hM : MemOk F g M w) {t : TypeId} {fid : Nat} {nx} (h : semAlloc P t M fid nx) :
    ∃ v w', (Instr.alloc t true (.tuple #[])).run P w = .ok v w' ∧ SR F g M w nx v w' := by
  unfold semAlloc at h
  split at h
  · rename_i cs hz
    obtain ⟨i, z, hi, hz', rfl⟩ := zc_spec hz
    obtain ⟨hc, hf, hn⟩ := h
    refine ⟨_, _, ?_, new_cells hM hf z.cells t _ (by simp) (fun j d u a b => ?_) nx hn⟩
    · simp [Instr.alloc, run_zeroValue hi hz', newVar, newRow]
    · simp only [List.getElem?_map, Array.getElem?_toList, b, Option.map_some, Option.some.injEq] at a
      subst a
      refine .c _ _ (cellD_ok ?_)
      rw [List.all_eq_true] at hc
      exact hc _ (List.mem_map.2 ⟨u, by simpa using Array.mem_of_getElem? b, rfl⟩)
  · exact h.elim

theorem box_ok {P : Program} {F : Fr} {g M w} (hM : MemOk F g M w) {t : TypeId} {fid : Nat} {nx} {d : D} {u : Value} (hv : Tv g (Ok F g M w) w d u) (h : semBox d M fid nx) :
    ∃ v w', (Instr.box t u).run P w = .ok v w' ∧ SR F g M w nx v w' := by
  obtain ⟨hc, hf, hn⟩ := h
  obtain ⟨h1, h2⟩ := hv.cells hc
  refine ⟨_, _, ?_, new_cells hM hf u.cells t _ h1 h2 nx hn⟩
  simp [Instr.box, newVar, newRow]

theorem addp (b off i : Nat) : (⟨b, off, none⟩ : Addr).add i = ⟨b, off + i, none⟩ := by
  unfold Addr.add; split <;> simp_all

theorem run_loadVar' {P : Program} {t : TypeId} {ag : Bool} {n : Nat} (hag : agT P t = some ag) (hn : szT P t = some n) {w : World} {b o : Nat} (X : Nat → Value)
    (h : ∀ j, j < (if ag then n else 1) → w.cell? ⟨b, o + j, none⟩ = some (X j)) :
    (loadVar t ⟨b, o, none⟩).run P w = .ok (if ag then .agg ((List.range n).map X).toArray else X 0) w := by
  cases ag with
  | true =>
    simp only [if_true] at h ⊢
    have := run_loadCells (P := P) w ⟨b, o, none⟩ n X (fun j hj => by rw [addp]; exact h j hj)
    simp [loadVar, run_isAgg' hag, run_sizeOf' hn, this]
  | false =>
    have h0 := h 0 (by simp)
    simp only [Nat.add_zero] at h0
    simp [loadVar, run_isAgg' hag, h0]

/-- Some cells of memory, read. -/
theorem getCells_ok {P : Program} {F : Fr} {g M w nx} (hM : MemOk F g M w) {t : TypeId} {ag : Bool} {n : Nat} (hag : agT P t = some ag) (hn : szT P t = some n)
    {b base off : Nat} {cs : List D} (hc : ∀ (j : Nat) d, cs[j]? = some d → ∃ u, w.cell? ⟨b, base + j, none⟩ = some u ∧ Tc g (Ok F g M w) w d u)
    (h : getCells ag n cs off M nx) : ∃ v w', (loadVar t ⟨b, base + off, none⟩).run P w = .ok v w' ∧ SR F g M w nx v w' := by
  unfold getCells at h
  cases ag with
  | true =>
    simp only [if_true] at h
    obtain ⟨hle, hnx⟩ := h
    have hX : ∀ j, ∃ u, j < n → w.cell? ⟨b, base + off + j, none⟩ = some u ∧ ∀ d, cs[off + j]? = some d → Tc g (Ok F g M w) w d u := by
      intro j
      by_cases hj : j < n
      · obtain ⟨u, hu, ht⟩ := hc (off + j) (cs[off + j]'(by omega)) (List.getElem?_eq_getElem (by omega))
        exact ⟨u, fun _ => ⟨by rw [Nat.add_assoc]; exact hu, fun d hd => by rw [List.getElem?_eq_getElem (by omega)] at hd; cases hd; exact ht⟩⟩
      · exact ⟨undef, fun h => absurd h hj⟩
    obtain ⟨X, hX⟩ := Classical.axiomOfChoice hX
    refine ⟨_, _, run_loadVar' hag hn X (fun j hj => (hX j (by simpa using hj)).1), ?_⟩
    simp only [if_true]
    refine SR.plain hM hnx (.agg _ _ (by simp; omega) fun i d u hd hu => ?_)
    by_cases hi : i < n
    · simp [hi] at hu
      rw [List.getElem?_take, if_pos hi, List.getElem?_drop] at hd
      rw [← hu]; exact (hX i hi).2 d hd
    · simp [hi] at hu
  | false =>
    simp only [Bool.false_eq_true, if_false, getCell] at h
    split at h
    · rename_i x hx
      obtain ⟨u, hu, ht⟩ := hc off x hx
      refine ⟨_, _, run_loadVar' hag hn (fun _ => u) (fun j hj => ?_), ?_⟩
      · have : j = 0 := by simpa using hj
        subst this; exact hu
      · exact SR.plain hM h (.c _ _ ht)
    · exact h.elim

/-- The cells behind an exclusive or frozen row. -/
theorem MemOk.rowCell {F : Fr} {g M w} (hM : MemOk F g M w) {id sz : Nat} {es : List (List D)} {ex : Bool} (hm : M id = some (.row sz es ex)) {gi : GI} (hg : g id = some gi)
    {i : Nat} {e : List D} (he : es[i]? = some e) (j : Nat) (d : D) (hd : e[j]? = some d) : gi.live = true ∧ ∃ u, w.cell? ⟨gi.blk, i * sz + j, none⟩ = some u ∧ Rc (Ok F g M w) w d u := by
  obtain ⟨gi', hg', hE⟩ := hM.ent id _ hm
  rw [hg] at hg'; cases hg'
  obtain ⟨h0, h1, h2, h3, hz, hA⟩ := hE
  have hlv : gi.live = true := by
    cases hl : gi.live with
    | true => rfl
    | false => have := (hz hl).1; subst this; simp at he
  obtain ⟨hA, c, T, h4, h5, h6⟩ := hA hlv
  have hlt : i < es.length := by
    rcases Nat.lt_or_ge i es.length with h | h
    · exact h
    · simp [List.getElem?_eq_none h] at he
  have hj : j < sz := by
    have := h2 e (List.mem_of_getElem? he)
    rcases Nat.lt_or_ge j e.length with h | h
    · omega
    · simp [List.getElem?_eq_none h] at hd
  have hb : i * sz + j < c.size := by
    have : (i + 1) * sz ≤ es.length * sz := Nat.mul_le_mul_right _ hlt
    have : i * sz + sz ≤ es.length * sz := by rw [← Nat.succ_mul]; exact this
    omega
  refine ⟨hlv, c[i * sz + j], ?_, h6 i j e d _ he hd (Array.getElem?_eq_getElem hb)⟩
  rw [cell_of_row w _ _ c T (0, 0) h4]
  exact Array.getElem?_eq_getElem hb

theorem load_ok {P : Program} {F : Fr} {g M w nx} (hM : MemOk F g M w) {t : TypeId} {p : D} {u : Value} (hp : Tv g (Ok F g M w) w p u) (h : semLoad P t p M nx) :
    ∃ v w', (Instr.loadAt t u).run P w = .ok v w' ∧ SR F g M w nx v w' := by
  unfold semLoad at h
  split at h
  · rename_i ag n hag hn
    split at h
    · rename_i id off
      split at h
      · rename_i cs hm
        cases hp.cell rfl with
        | c _ _ h => cases h
        | box _ _ gi hg =>
          obtain ⟨gi', hg', hlv, c, T, h4, h5, h6⟩ := hM.ent id _ hm
          rw [hg] at hg'; cases hg'
          have := getCells_ok (P := P) (b := gi.blk) (base := 0) hM hag hn (cs := cs) (fun j d hd => ?_) h
          · simpa [Instr.loadAt, Instr.sureAddr] using this
          · have hlt : j < c.size := by
              rw [h5]
              rcases Nat.lt_or_ge j cs.length with h | h
              · exact h
              · simp [List.getElem?_eq_none h] at hd
            refine ⟨c[j], ?_, h6 j d _ hd (Array.getElem?_eq_getElem hlt)⟩
            rw [cell_of_row w _ _ c T (0, 0) h4]; simp [hlt]
      · exact h.elim
    · rename_i id i off
      split at h
      · rename_i sz es ex hm
        cases hp.cell rfl with
        | c _ _ h => cases h
        | elt _ _ _ gi hg hi =>
          obtain ⟨gi', hg', hE⟩ := hM.ent id _ hm
          rw [hg] at hg'; cases hg'
          split at h
          case h_2 => exact h.elim
          rename_i e he
          have := getCells_ok (P := P) (b := gi.blk) (base := i * gi.sz) hM hag hn (cs := e) (fun j d hd => ?_) h
          · simpa [Instr.loadAt, Instr.sureAddr] using this
          · rw [hE.1]
            obtain ⟨_, u, h1, h2⟩ := hM.rowCell hm hg he j d hd
            exact ⟨u, h1, .c _ _ h2⟩
      · exact h.elim
    · rename_i sz es i off
      cases hp.cell rfl with
      | c _ _ hr =>
        cases hr with
        | rp _ _ _ _ b o X hsz hi hA hc hr =>
          have he : es[i]? = some es[i] := List.getElem?_eq_getElem hi
          rw [he] at h
          have := getCells_ok (P := P) (b := b) (base := o + i * sz) hM hag hn (cs := es[i]) (fun j d hd => ?_) h
          · simpa [Instr.loadAt, Instr.sureAddr] using this
          · have hj : j < sz := by
              have := hsz es[i] (List.getElem_mem hi)
              rcases Nat.lt_or_ge j es[i].length with h | h
              · omega
              · simp [List.getElem?_eq_none h] at hd
            exact ⟨_, hc i j hi hj, .c _ _ (hr i j _ _ he hd)⟩
    · exact h.elim
  · exact h.elim

end Go.Abs

/- The abstract machine, fifth part: by value; freezing; stores. -/
set_option linter.unusedVariables false
set_option linter.unusedSimpArgs false
namespace Go.Abs
open Go

/-- A row, read by value. -/
theorem MemOk.rowSl {F : Fr} {g M w} (hM : MemOk F g M w) {id sz : Nat} {es : List (List D)} {ex : Bool} (hm : M id = some (.row sz es ex)) {gi : GI} (hg : g id = some gi)
    {A : Nat → Prop} (hA : ∀ b, Ok F g M w b → A b) (hx : ex = true → ∀ b, b < w.heap.size → A b)
    {off n c : Nat} {a : Option Addr} (hon : off + n ≤ es.length) (hn : n ≤ c) (ha : n = 0 ∨ a = some ⟨gi.blk, off * sz, none⟩) :
    Rc A w (.sl sz ((es.drop off).take n)) (.slice a n c) := by
  obtain ⟨gi', hg', hE⟩ := hM.ent id _ hm
  rw [hg] at hg'; cases hg'
  obtain ⟨h0, h1, h2, h3, hz, hB⟩ := hE
  have hlen : ((es.drop off).take n).length = n := by simp; omega
  have hX : ∀ i, ∃ f : Nat → Value, ∀ j, i < n → j < sz → w.cell? ⟨gi.blk, off * sz + i * sz + j, none⟩ = some (f j) ∧ ∀ e d, es[off + i]? = some e → e[j]? = some d → Rc A w d (f j) := by
    intro i
    apply Classical.axiomOfChoice (r := fun j v => i < n → j < sz → w.cell? ⟨gi.blk, off * sz + i * sz + j, none⟩ = some v ∧ ∀ e d, es[off + i]? = some e → e[j]? = some d → Rc A w d v)
    intro j
    by_cases hij : i < n ∧ j < sz
    · obtain ⟨hi, hj⟩ := hij
      have he : es[off + i]? = some es[off + i] := List.getElem?_eq_getElem (by omega)
      have hl := h2 _ (List.getElem_mem (l := es) (n := off + i) (by omega))
      have hd : es[off + i][j]? = some es[off + i][j] := List.getElem?_eq_getElem (by omega)
      obtain ⟨_, u, hu, hr⟩ := hM.rowCell hm hg he j _ hd
      refine ⟨u, fun _ _ => ⟨by rw [← Nat.add_mul]; exact hu, fun e d h1 h2 => ?_⟩⟩
      rw [he] at h1; cases h1; rw [hd] at h2; cases h2
      exact hr.mono fun b hb => ⟨hA b hb, rfl⟩
    · exact ⟨undef, fun a b => absurd ⟨a, b⟩ hij⟩
  obtain ⟨X, hX⟩ := Classical.axiomOfChoice hX
  have key := Rc.sl (A := A) (w := w) sz ((es.drop off).take n) a c X (by omega) (fun e he => h2 e (List.mem_of_mem_drop (List.mem_of_mem_take he))) (fun hne => ?_) (fun i j e d he hd => ?_)
  · rw [hlen] at key; exact key
  · have hn0 : n ≠ 0 := fun h => hne (by simp [h])
    refine ⟨gi.blk, off * sz, ha.resolve_left hn0, ?_, fun i j hi hj => ?_⟩
    · have hlv : gi.live = true := by
        cases hl : gi.live with
        | true => rfl
        | false => have := (hz hl).1; subst this; simp at hon; omega
      cases ex with
      | true => exact hx rfl _ (hM.lo id _ gi hm rfl hg hlv).1
      | false => exact hA _ ((hB hlv).1 rfl)
    · rw [hlen] at hi
      exact (hX i j hi hj).1
  · rw [List.getElem?_take] at he
    split at he
    · rename_i hi
      rw [List.getElem?_drop] at he
      have hj : j < sz := by
        have := h2 e (List.mem_of_getElem? he)
        rcases Nat.lt_or_ge j e.length with h | h
        · omega
        · simp [List.getElem?_eq_none h] at hd
      exact (hX i j hi hj).2 e d he hd
    · simp at he

theorem Rc.of_true {A : Nat → Prop} {w : World} {d : D} {u : Value} {A' : Nat → Prop} (h : Rc A w d u) (hA : ∀ b, A b → A' b) : Rc A' w d u := h.mono fun b hb => ⟨hA b hb, rfl⟩

theorem fz0_ok {F : Fr} {g M w} (hM : MemOk F g M w) {b : Bool} {A : Nat → Prop} (hA : ∀ b, Ok F g M w b → A b) (hx : b = true → ∀ b, b < w.heap.size → A b)
    {d d' : D} {u : Value} (hv : Tc g (Ok F g M w) w d u) (h : fz0 M b d = some d') : Rc A w d' u := by
  have hrow : ∀ {id sz : Nat} {es : List (List D)} {ex : Bool} {x : D}, M id = some (.row sz es ex) → (if (ex && !b) = true then none else some x) = some d' → d' = x ∧ (ex = true → ∀ b, b < w.heap.size → A b) := by
    intro id sz es ex x hm hh
    cases ex <;> cases b <;> simp at hh hx ⊢
    · exact hh.symm
    · exact hh.symm
    · exact ⟨hh.symm, hx⟩
  cases hv with
  | c _ _ hr =>
    cases hr with
    | v x hf => simp [fz0] at h; subst h; exact .v _ hf
    | nils => simp [fz0] at h; subst h; exact .nils
    | sl sz es a c X h1 h2 h3 h4 => simp [fz0] at h; subst h; exact Rc.of_true (.sl sz es a c X h1 h2 h3 h4) hA
    | rp sz es i off b' o X h1 h2 h3 h4 h5 => simp [fz0] at h; subst h; exact Rc.of_true (.rp sz es i off b' o X h1 h2 h3 h4 h5) hA
    | fn => simp [fz0] at h
  | row id gi a c hg hn hc ha =>
    simp only [fz0] at h
    split at h
    · rename_i sz es ex hm
      obtain ⟨rfl, hx'⟩ := hrow hm h
      obtain ⟨gi', hg', hE⟩ := hM.ent id _ hm
      rw [hg] at hg'; cases hg'
      have := hM.rowSl hm hg hA hx' (off := 0) (n := gi.len) (c := c) (a := a) (by rw [hE.2.1]; omega) hn (by
        rcases ha with ha | ha
        · left; omega
        · right; simpa using ha)
      rw [hE.2.1] at this ⊢
      simpa using this
    · simp at h
  | vw id off n gi a c hg ho hn ha =>
    simp only [fz0] at h
    split at h
    · rename_i sz es ex hm
      obtain ⟨rfl, hx'⟩ := hrow hm h
      obtain ⟨gi', hg', hE⟩ := hM.ent id _ hm
      rw [hg] at hg'; cases hg'
      exact hM.rowSl hm hg hA hx' (by rw [← hE.2.1]; exact ho) hn (by rw [← hE.1]; exact ha)
    · simp at h
  | elt id i off gi hg hi =>
    simp only [fz0] at h
    split at h
    · rename_i sz es ex hm
      obtain ⟨rfl, hx'⟩ := hrow hm h
      obtain ⟨gi', hg', hE⟩ := hM.ent id _ hm
      rw [hg] at hg'; cases hg'
      have hne : es ≠ [] := fun h => by have := hE.2.1; rw [h] at this; simp at this; omega
      have := hM.rowSl hm hg hA hx' (off := 0) (n := es.length) (c := es.length) (a := some ⟨gi.blk, 0, none⟩) (by omega) (Nat.le_refl _) (.inr (by simp))
      simp only [List.drop_zero, List.take_length] at this
      cases this with
      | sl _ _ _ _ X h1 h2 h3 h4 =>
        obtain ⟨bb, o, hb, hAb, hc⟩ := h3 hne
        cases hb
        rw [hE.1]
        have k := Rc.rp (A := A) (w := w) sz es i off gi.blk 0 X h2 (by rw [← hE.2.1]; exact hi) hAb hc h4
        simpa using k
    · simp at h
  | box => simp [fz0] at h
  | mp => simp [fz0] at h
  | it => simp [fz0] at h
  | fn => simp [fz0] at h

theorem mapO_length {α β : Type} {f : α → Option β} : ∀ {l : List α} {l' : List β}, mapO f l = some l' → l'.length = l.length
  | [], l', h => by simp [mapO] at h; subst h; rfl
  | x :: l, l', h => by
    simp only [mapO] at h
    split at h
    · rename_i y r h1 h2; cases h; simp [mapO_length h2]
    · simp at h
theorem mapO_get {α β : Type} {f : α → Option β} : ∀ {l : List α} {l' : List β}, mapO f l = some l' → ∀ {i : Nat} {y : β}, l'[i]? = some y → ∃ x, l[i]? = some x ∧ f x = some y
  | [], l', h, i, y, hi => by simp [mapO] at h; subst h; simp at hi
  | x :: l, l', h, i, y, hi => by
    simp only [mapO] at h
    split at h
    · rename_i y' r h1 h2
      cases h
      cases i with
      | zero => simp at hi; subst hi; exact ⟨x, by simp, h1⟩
      | succ i => simp at hi; obtain ⟨z, hz, hf⟩ := mapO_get h2 hi; exact ⟨z, by simpa using hz, hf⟩
    · simp at h

/-- By value, boxes and functions too. -/
theorem fz_ok {F : Fr} {g M w} (hM : MemOk F g M w) {b : Bool} {A : Nat → Prop} (hA : ∀ b, Ok F g M w b → A b) (hx : b = true → ∀ b, b < w.heap.size → A b) :
    ∀ (n : Nat) {d d' : D} {u : Value}, isCell d = true → Tc g (Ok F g M w) w d u → fz M b n d = some d' → Rc A w d' u
  | 0, d, d', u, _, hv, h => fz0_ok hM hA hx hv (by simpa [fz] using h)
  | n + 1, d, d', u, hcl, hv, h => by
    have hcell : ∀ {cs cs' : List D} {us : Array Value}, us.size = cs.length → (∀ (i : Nat) d u, cs[i]? = some d → us[i]? = some u → Tc g (Ok F g M w) w d u) → mapO (fz M b n) cs = some cs' →
        us.size = cs'.length ∧ ∀ (i : Nat) d u, cs'[i]? = some d → us[i]? = some u → Rc A w d u := by
      intro cs cs' us hl hr hm
      refine ⟨by rw [hl, mapO_length hm], fun i d u hd hu => ?_⟩
      obtain ⟨x, hx1, hx2⟩ := mapO_get hm hd
      have ht := hr i x u hx1 hu
      exact fz_ok hM hA hx n ht.isCell ht hx2
    cases d with
    | fn f x y =>
      simp only [fz] at h
      split at h
      · rename_i x' y' h1 h2
        cases h
        cases hv with
        | c _ _ hr =>
          cases hr with
          | fn _ _ _ us vs hl hs hf hr =>
            obtain ⟨a1, a2⟩ := hcell hl (fun i d u p q => .c _ _ (hf i d u p q)) h1
            obtain ⟨b1, b2⟩ := hcell hs (fun i d u p q => .c _ _ (hr i d u p q)) h2
            exact .fn f x' y' us vs a1 b1 a2 b2
        | fn _ _ _ us vs hl hs hf hr =>
          obtain ⟨a1, a2⟩ := hcell hl hf h1
          obtain ⟨b1, b2⟩ := hcell hs hr h2
          exact .fn f x' y' us vs a1 b1 a2 b2
      · simp at h
    | box id off =>
      simp only [fz] at h
      split at h
      · rename_i cs hm
        split at h
        · rename_i hb
          split at h
          · rename_i cs' h1
            cases h
            cases hv with
            | c _ _ hr => cases hr
            | box _ _ gi hg =>
              obtain ⟨gi', hg', hlv, c, T, h4, h5, h6⟩ := hM.ent id _ hm
              rw [hg] at hg'; cases hg'
              obtain ⟨a1, a2⟩ := hcell h5 h6 h1
              have hl := mapO_length h1
              have key := Rc.rp (A := A) (w := w) cs.length [cs'] 0 off gi.blk 0 (fun i j => c.getD j undef) (by simp [hl]) (by simp) (hx hb _ (hM.lo id _ gi hm rfl hg hlv).1)
                (fun i j hi hj => by
                  have hi0 : i = 0 := by simpa using hi
                  subst hi0
                  rw [cell_of_row w _ _ c T (0, 0) h4]
                  simp [Array.getD, h5, hj])
                (fun i j e d he hd => by
                  cases i with
                  | succ i => simp at he
                  | zero =>
                    simp at he; subst he
                    have hj : j < c.size := by
                      rcases Nat.lt_or_ge j cs'.length with h | h
                      · omega
                      · simp [List.getElem?_eq_none h] at hd
                    exact a2 j d _ hd (by simp [Array.getD, hj]))
              simpa using key
          · simp at h
        · simp at h
      · simp at h
    | agg cs => simp [isCell] at hcl
    | _ => exact fz0_ok hM hA hx hv (by simpa [fz] using h)

/-! Freezing. -/
theorem frz1_ok {F : Fr} {g M w} (hM : MemOk F g M w) (id : Nat) : MemOk F g (frz1 F.np M id) w ∧ Le g (Ok F g M w) w g (Ok F g (frz1 F.np M id) w) w := by
  unfold frz1
  split
  · rename_i sz es hm
    split
    · rename_i hn; exact hM.freeze hm hn
    · exact ⟨hM, Le.refl _ _ _⟩
  · exact ⟨hM, Le.refl _ _ _⟩
theorem frz0_ok {F : Fr} {g M w} (hM : MemOk F g M w) (d : D) : MemOk F g (frz0 F.np M d) w ∧ Le g (Ok F g M w) w g (Ok F g (frz0 F.np M d) w) w := by
  cases d <;> first | exact frz1_ok hM _ | exact ⟨hM, Le.refl _ _ _⟩
theorem frzL_ok {F : Fr} {g w} : ∀ (l : List D) {M}, MemOk F g M w → MemOk F g (frzL F.np M l) w ∧ Le g (Ok F g M w) w g (Ok F g (frzL F.np M l) w) w
  | [], M, hM => ⟨hM, Le.refl _ _ _⟩
  | d :: l, M, hM => by
    obtain ⟨h1, h2⟩ := frz0_ok hM d
    obtain ⟨h3, h4⟩ := frzL_ok l h1
    exact ⟨h3, h2.trans h4⟩
theorem frz_ok {F : Fr} {g M w} (hM : MemOk F g M w) (d : D) : MemOk F g (frz F.np M d) w ∧ Le g (Ok F g M w) w g (Ok F g (frz F.np M d) w) w := by
  cases d with
  | agg cs => exact frzL_ok cs hM
  | box id off =>
    simp only [frz]
    split
    · exact frzL_ok _ hM
    · exact ⟨hM, Le.refl _ _ _⟩
  | row id => exact frz0_ok hM (.row id)
  | vw id o n => exact frz0_ok hM (.vw id o n)
  | elt id i o => exact frz0_ok hM (.elt id i o)
  | _ => exact ⟨hM, Le.refl _ _ _⟩
theorem frzA_ok {F : Fr} {g w} : ∀ (l : List D) {M}, MemOk F g M w → MemOk F g (frzA F.np M l) w ∧ Le g (Ok F g M w) w g (Ok F g (frzA F.np M l) w) w
  | [], M, hM => ⟨hM, Le.refl _ _ _⟩
  | d :: l, M, hM => by
    obtain ⟨h1, h2⟩ := frz_ok hM d
    obtain ⟨h3, h4⟩ := frzA_ok l h1
    exact ⟨h3, h2.trans h4⟩

/-! Stores. -/
theorem splice_get {α : Type} (l r : List α) (off i : Nat) (h : off + r.length ≤ l.length) :
    (l.take off ++ r ++ l.drop (off + r.length))[i]? = if i < off then l[i]? else if i < off + r.length then r[i - off]? else l[i]? := by
  have h1 : (l.take off).length = off := by simp; omega
  by_cases hi : i < off
  · rw [if_pos hi, List.append_assoc, List.getElem?_append_left (by omega), List.getElem?_take, if_pos hi]
  · rw [if_neg hi]
    by_cases hj : i < off + r.length
    · rw [if_pos hj, List.append_assoc, List.getElem?_append_right (by omega), h1, List.getElem?_append_left (by omega)]
    · rw [if_neg hj, List.getElem?_append_right (by simp; omega), List.getElem?_drop]
      congr 1; simp; omega

theorem splice_length (l r : List D) (off : Nat) (h : off + r.length ≤ l.length) : (splice l off r).length = l.length := by
  simp [splice]; omega

theorem run_storeVar' {P : Program} {t : TypeId} {v : Value} (hs : szT P t = some v.cells.size) (h1 : ∀ x ∈ v.cells.toList, x.oneCell' = true) {w : World} {b o : Nat} {c : Array Value} {T : TypeId}
    (hb : w.heap[b]? = some (.cells c T (0, 0))) (hl : o + v.cells.size ≤ c.size) :
    (storeVar t ⟨b, o, none⟩ v).run P w = .ok () (w.setRow b (c.toList.take o ++ v.cells.toList ++ c.toList.drop (o + v.cells.toList.length)).toArray) := by
  have := run_storeCells_at P b o T v.cells.toList 0 c w hb (by simpa using hl) h1
  simp only [Nat.add_zero] at this
  simp [storeVar, run_sizeOf' hs]
  simpa using this

theorem store_ok {P : Program} {F : Fr} {g M w nx} (hM : MemOk F g M w) {t : TypeId} {p d : D} {u v : Value} (hp : Tv g (Ok F g M w) w p u) (hv : Tv g (Ok F g M w) w d v)
    (h : semStore P F.np t p d M nx) : ∃ w', (Instr.storeAt t u v).run P w = .ok () w' ∧ SR F g M w nx undef w' := by
  obtain ⟨hsz, hall, h⟩ := h
  obtain ⟨hcs, hcr⟩ := hv.cells hall
  have h1 : ∀ x ∈ v.cells.toList, x.oneCell' = true := by
    intro x hx
    obtain ⟨i, hi⟩ := List.getElem?_of_mem hx
    have hi' : v.cells[i]? = some x := by simpa using hi
    have hlt : i < (cellsD d).length := by
      rw [← hcs]
      rcases Nat.lt_or_ge i v.cells.size with h | h
      · exact h
      · simp [Array.getElem?_eq_none h] at hi'
    exact (hcr i _ x (List.getElem?_eq_getElem hlt) hi').one
  rw [← hcs] at hsz
  split at h
  · rename_i id off
    split at h
    · rename_i cs hm
      obtain ⟨hle, hnx⟩ := h
      cases hp.cell rfl with
      | c _ _ h => cases h
      | box _ _ gi hg =>
        obtain ⟨gi', hg', hlv, c, T, h4, h5, h6⟩ := hM.ent id _ hm
        rw [hg] at hg'; cases hg'
        have hrun := run_storeVar' hsz h1 h4 (o := off) (by omega)
        refine ⟨_, (by simp only [Instr.storeAt, Instr.sureAddr, pure_bind]; exact hrun), ?_⟩
        obtain ⟨k1, k2⟩ := hM.modify (e' := .cells (splice cs off (cellsD d))) hm rfl hg hlv (w' := w.setRow gi.blk (c.toList.take off ++ v.cells.toList ++ c.toList.drop (off + v.cells.toList.length)).toArray)
          (fun b hb => setRow_other w _ _ _ hb) (by simp) rfl rfl rfl rfl (fun hL => by
            refine ⟨hlv, _, T, setRow_heap w _ c _ T (0, 0) h4, ?_, fun i d' u' hd hu => ?_⟩
            · rw [splice_length _ _ _ hle]; simp; omega
            · simp only [List.getElem?_toArray] at hu
              rw [splice_get _ _ _ _ (by simp; omega)] at hu
              rw [splice, splice_get _ _ _ _ hle] at hd
              have e1 : v.cells.toList.length = (cellsD d).length := by simpa using hcs
              rw [e1] at hu
              split at hd
              · rename_i hi; rw [if_pos hi] at hu; exact (h6 i d' u' hd (by simpa using hu)).mono hL
              · rename_i hi; rw [if_neg hi] at hu
                split at hd
                · rename_i hj; rw [if_pos hj] at hu; exact (hcr _ d' u' hd (by simpa using hu)).mono hL
                · rename_i hj; rw [if_neg hj] at hu; exact (h6 i d' u' hd (by simpa using hu)).mono hL)
        exact ⟨_, _, _, hnx, k1, k2, .junk _⟩
    · exact h.elim
  · rename_i id i off
    obtain ⟨f1, f2⟩ := frz_ok hM d
    generalize frz F.np M d = M' at h f1 f2
    simp only at h
    split at h
    · rename_i sz es ds hm hds
      have hp' := hp.mono f2
      have hv' := hv.mono f2
      cases hp'.cell rfl with
      | c _ _ h => cases h
      | elt _ _ _ gi hg hi =>
        obtain ⟨gi', hg', hE⟩ := f1.ent id _ hm
        rw [hg] at hg'; cases hg'
        have hE' := hE
        obtain ⟨h0, hn, h2, h3, hz, hA⟩ := hE
        subst h0
        have h0 : gi.sz = gi.sz := rfl
        have hlt : i < es.length := by omega
        have hlv : gi.live = true := by
          cases hl : gi.live with
          | true => rfl
          | false => have := (hz hl).1; subst this; simp at hlt
        obtain ⟨_, c, T, h4, h5, h6⟩ := hA hlv
        rw [List.getElem?_eq_getElem hlt] at h
        obtain ⟨hoff, hnx⟩ := h
        have hdl := mapO_length hds
        have hrow : i * gi.sz + gi.sz ≤ es.length * gi.sz := by rw [← Nat.succ_mul]; exact Nat.mul_le_mul_right _ hlt
        have hel := h2 _ (List.getElem_mem hlt)
        have hrun := run_storeVar' hsz h1 h4 (o := i * gi.sz + off) (by omega)
        refine ⟨_, (by simp only [Instr.storeAt, Instr.sureAddr, pure_bind]; exact hrun), ?_⟩
        obtain ⟨hcs', hcr'⟩ := hv'.cells hall
        obtain ⟨k1, k2⟩ := f1.modify (e' := .row gi.sz (es.set i (splice es[i] off ds)) true) hm rfl hg hlv
          (w' := w.setRow gi.blk (c.toList.take (i * gi.sz + off) ++ v.cells.toList ++ c.toList.drop (i * gi.sz + off + v.cells.toList.length)).toArray)
          (fun b hb => setRow_other w _ _ _ hb) (by simp) rfl rfl rfl rfl (fun hL => by
            refine ⟨h0, by simpa using hn, fun e he => ?_, by simpa using h3, fun hl => by simp [hlv] at hl, fun _ => ⟨fun hh => by simp at hh, _, T, setRow_heap w _ c _ T (0, 0) h4, ?_, fun a j e d' u' he hd hu => ?_⟩⟩
            · rcases List.mem_or_eq_of_mem_set he with he | he
              · exact h2 e he
              · rw [he, splice_length _ _ _ (by omega)]; exact hel
            · have e1 : v.cells.toList.length = ds.length := by simp; omega
              simp only [List.size_toArray, List.length_append, List.length_take, List.length_drop, e1, Array.length_toList]
              omega
            · simp only [List.getElem?_toArray] at hu
              have e1 : v.cells.toList.length = ds.length := by simp; omega
              rw [splice_get _ _ _ _ (by simp; omega), e1] at hu
              by_cases hai : a = i
              · subst hai
                rw [List.getElem?_set_self hlt] at he
                cases he
                rw [splice, splice_get _ _ _ _ (by omega)] at hd
                by_cases hj1 : j < off
                · rw [if_pos hj1] at hd; rw [if_pos (by omega)] at hu
                  exact (h6 a j _ d' u' (List.getElem?_eq_getElem hlt) hd (by simpa using hu)).mono hL.A
                · rw [if_neg hj1] at hd; rw [if_neg (by omega)] at hu
                  by_cases hj2 : j < off + ds.length
                  · rw [if_pos hj2] at hd; rw [if_pos (by omega)] at hu
                    obtain ⟨x, hx1, hx2⟩ := mapO_get hds hd
                    rw [show a * gi.sz + j - (a * gi.sz + off) = j - off from by omega] at hu
                    have ht := hcr' _ x u' hx1 (by simpa using hu)
                    exact (fz_ok f1 (fun _ h => h) (fun h => by simp at h) 1 ht.isCell ht hx2).mono hL.A
                  · rw [if_neg hj2] at hd; rw [if_neg (by omega)] at hu
                    exact (h6 a j _ d' u' (List.getElem?_eq_getElem hlt) hd (by simpa using hu)).mono hL.A
              · rw [List.getElem?_set_ne (fun h => hai h.symm)] at he
                have hj : j < gi.sz := by
                  have := h2 e (List.mem_of_getElem? he)
                  rcases Nat.lt_or_ge j e.length with h | h
                  · omega
                  · simp [List.getElem?_eq_none h] at hd
                have hne : ¬ (i * gi.sz + off ≤ a * gi.sz + j ∧ a * gi.sz + j < i * gi.sz + off + ds.length) := by
                  rintro ⟨q1, q2⟩
                  rcases Nat.lt_or_gt_of_ne hai with hlt' | hgt
                  · have : a * gi.sz + gi.sz ≤ i * gi.sz := by rw [← Nat.succ_mul]; exact Nat.mul_le_mul_right _ hlt'
                    omega
                  · have : i * gi.sz + gi.sz ≤ a * gi.sz := by rw [← Nat.succ_mul]; exact Nat.mul_le_mul_right _ hgt
                    omega
                have hu' : c[a * gi.sz + j]? = some u' := by
                  by_cases q1 : a * gi.sz + j < i * gi.sz + off
                  · rw [if_pos q1] at hu; simpa using hu
                  · rw [if_neg q1, if_neg (by omega)] at hu; simpa using hu
                exact (h6 a j e d' u' he hd hu').mono hL.A)
        exact ⟨_, _, _, hnx, k1, f2.trans k2, .junk _⟩
    · exact h.elim
  · exact h.elim

end Go.Abs

/- The abstract machine, sixth part: the other operations. -/
set_option linter.unusedVariables false
set_option linter.unusedSimpArgs false
namespace Go.Abs
open Go

/-! ## Operations on plain values -/
def intOp (op : BinOp) (k : IntKind) (a b : Int) : Option Value :=
  match op with
  | .add => some (.int k (k.wrap (a + b)))
  | .sub => some (.int k (k.wrap (a - b)))
  | .mul => some (.int k (k.wrap (a * b)))
  | .eql => some (.bool (a == b))
  | .neq => some (.bool (a != b))
  | .lss => some (.bool (decide (a < b)))
  | .leq => some (.bool (decide (a ≤ b)))
  | .gtr => some (.bool (decide (a > b)))
  | .geq => some (.bool (decide (a ≥ b)))
  | _ => none

def isBoolT (P : Program) (t : TypeId) : Bool := match P.underlying t with | some .bool => true | _ => false

/-- Two plain values. -/
def semBinV (P : Program) (op : BinOp) (t : TypeId) (x y : Value) (M : Mem) (nx : D → Mem → Prop) : Prop :=
  match op, x, y with
  | .rem, .int k a, .int k' b => k = k' ∧ b ≠ 0 ∧ nx (.v (.int k (a.tmod b))) M
  | .quo, .int k a, .int k' b => k = k' ∧ b ≠ 0 ∧ nx (.v (.int k (k.wrap (a.tdiv b)))) M
  | .shl, .int k a, .int _ b => 0 ≤ b ∧ nx (.v (.int k (k.wrap (a * 2 ^ (min b.toNat k.bits))))) M
  | .shr, .int k a, .int _ b => 0 ≤ b ∧ nx (.v (.int k (a.fdiv (2 ^ (min b.toNat k.bits))))) M
  | op, .int k a, .int k' b => k = k' ∧ match intOp op k a b with
    | some v => nx (.v v) M
    | none => False
  | .eql, .bool a, .bool b => isBoolT P t = true ∧ nx (.v (.bool (a == b))) M
  | .neq, .bool a, .bool b => isBoolT P t = true ∧ nx (.v (.bool (!(a == b)))) M
  | .eql, .string a, .string b => nx (.v (.bool (a.toList == b.toList))) M
  | .neq, .string a, .string b => nx (.v (.bool (!(a.toList == b.toList)))) M
  | .add, .string a, .string b => (a.size + b.size : Nat) ≤ 9223372036854775807 ∧ nx (.v (.string (a ++ b))) M
  | _, _, _ => False

theorem run_equal_bool {P : Program} {t : TypeId} (h : P.underlying t = some .bool) (a b : Bool) (w : World) : (Op.equal t (.bool a) (.bool b)).run P w = .ok (a == b) w := by
  have key : ∀ d, (Op.equalIn (d + 1) t (.bool a) (.bool b)).run P w = .ok (a == b) w := by
    intro d
    simp [Op.equalIn, run_underlying h]
  exact key 9999

theorem binV_ok {P : Program} {F : Fr} {g M w nx} (hM : MemOk F g M w) {op : BinOp} {t : TypeId} {xo yo : Operand} {x y : Value} (h : semBinV P op t x y M nx) :
    ∃ v w', (do eqGuard op t xo yo x y; binOp op t x y : Sem Value).run P w = .ok v w' ∧ SR F g M w nx v w' := by
  have hb : ∀ {v : Value}, flat v = true → nx (.v v) M → SR F g M w nx v w := fun hf hn => SR.plain hM hn (.c _ _ (.c _ _ (.v _ hf)))
  have hboolT : isBoolT P t = true → P.underlying t = some .bool := by
    intro h; unfold isBoolT at h; split at h <;> simp_all
  unfold semBinV at h
  split at h
  · obtain ⟨rfl, h0, hn⟩ := h
    exact ⟨_, _, by simp [eqGuard, binOp, Op.intDiv, h0], hb rfl hn⟩
  · obtain ⟨rfl, h0, hn⟩ := h
    exact ⟨_, _, by simp [eqGuard, binOp, Op.intDiv, h0], hb rfl hn⟩
  · rename_i k a k' b
    obtain ⟨h0, hn⟩ := h
    have h1 : ¬ b < 0 := by omega
    exact ⟨_, _, by simp [eqGuard, binOp, Op.shift, h1], hb rfl hn⟩
  · rename_i k a k' b
    obtain ⟨h0, hn⟩ := h
    have h1 : ¬ b < 0 := by omega
    exact ⟨_, _, by simp [eqGuard, binOp, Op.shift, h1], hb rfl hn⟩
  · obtain ⟨rfl, h⟩ := h
    split at h
    · rename_i v hv
      unfold intOp at hv
      split at hv <;> simp only [Option.some.injEq, reduceCtorEq] at hv <;> subst hv <;>
        exact ⟨_, _, by simp [eqGuard, binOp, Op.intArith, Op.intCmp], hb rfl h⟩
    · exact h.elim
  · obtain ⟨h0, hn⟩ := h
    exact ⟨_, _, by simp [eqGuard, binOp, run_equal_bool (hboolT h0)], hb rfl hn⟩
  · obtain ⟨h0, hn⟩ := h
    exact ⟨_, _, by simp only [eqGuard, binOp]; simp [run_equal_bool (hboolT h0)], hb rfl hn⟩
  · exact ⟨_, _, by simp [eqGuard, binOp, Op.stringOp], hb rfl h⟩
  · exact ⟨_, _, by simp [eqGuard, binOp, Op.stringOp], hb rfl h⟩
  · rename_i a b
    obtain ⟨h0, hn⟩ := h
    have hm : IntKind.i64.max = 9223372036854775807 := by decide
    refine ⟨.string (a ++ b), w, ?_, hb rfl hn⟩
    have h1 : ¬ ((9223372036854775807 : Int) < (a.size : Int) + (b.size : Int)) := by omega
    simp [eqGuard, binOp, Op.stringOp, hm, h1]
  · exact h.elim

def semUn (op : UnOp) (x : D) (M : Mem) (nx : D → Mem → Prop) : Prop :=
  match op, x with
  | .not, .v (.bool b) => nx (.v (.bool (!b))) M
  | .neg, .v (.int k n) => nx (.v (.int k (k.wrap (0 - n)))) M
  | _, _ => False

theorem un_ok {P : Program} {F : Fr} {g M w nx} (hM : MemOk F g M w) {op : UnOp} {x : D} {u : Value} (hx : Tv g (Ok F g M w) w x u) (h : semUn op x M nx) :
    ∃ v w', (Op.unary op u).run P w = .ok v w' ∧ SR F g M w nx v w' := by
  have hb : ∀ {v : Value}, flat v = true → nx (.v v) M → SR F g M w nx v w := fun hf hn => SR.plain hM hn (.c _ _ (.c _ _ (.v _ hf)))
  unfold semUn at h
  split at h
  · cases hx.cell rfl with
    | c _ _ hr => cases hr with
      | v => exact ⟨_, _, by simp [Op.unary], hb rfl h⟩
  · cases hx.cell rfl with
    | c _ _ hr => cases hr with
      | v => exact ⟨_, _, by simp only [Op.unary, Op.intArith]; rfl, hb rfl h⟩
  · exact h.elim

/-- An int made another int. -/
def semConv (P : Program) (src dst : TypeId) (x : D) (M : Mem) (nx : D → Mem → Prop) : Prop :=
  match inT P dst, x with
  | some k, .v (.int _ n) => (P.underlying src).isSome = true ∧ nx (.v (.int k (k.wrap n))) M
  | _, _ => False

theorem conv_ok {P : Program} {F : Fr} {g M w nx} (hM : MemOk F g M w) {src dst : TypeId} {x : D} {u : Value} (hx : Tv g (Ok F g M w) w x u) (h : semConv P src dst x M nx) :
    ∃ v w', (convert src dst u).run P w = .ok v w' ∧ SR F g M w nx v w' := by
  unfold semConv at h
  split at h
  · rename_i k kk n hk
    obtain ⟨hs, hn⟩ := h
    cases hx.cell rfl with
    | c _ _ hr => cases hr with
      | v =>
        have hd : P.underlying dst = some (.int k) := by unfold inT at hk; split at hk <;> simp_all
        obtain ⟨ds, hs⟩ := Option.isSome_iff_exists.1 hs
        refine ⟨_, _, ?_, SR.plain hM hn (.c _ _ (.c _ _ (.v _ rfl)))⟩
        simp [convert, underlying, hs, hd, Conv.intToInt]
  · exact h.elim

def semExtract (t : D) (i : Nat) (M : Mem) (nx : D → Mem → Prop) : Prop :=
  match t with
  | .tup ds => match ds[i]? with
    | some d => nx d M
    | none => False
  | _ => False

theorem extract_ok {P : Program} {F : Fr} {g M w nx} (hM : MemOk F g M w) {i : Nat} {x : D} {u : Value} (hx : Tv g (Ok F g M w) w x u) (h : semExtract x i M nx) :
    ∃ v w', (Instr.extract u i).run P w = .ok v w' ∧ SR F g M w nx v w' := by
  unfold semExtract at h
  split at h
  · rename_i ds
    split at h
    · rename_i d hd
      cases hx with
      | c _ _ h => cases h with | c _ _ h => cases h
      | tup _ us hl hr =>
        have hlt : i < us.size := by
          rw [hl]
          rcases Nat.lt_or_ge i ds.length with h | h
          · exact h
          · simp [List.getElem?_eq_none h] at hd
        refine ⟨us[i], w, ?_, SR.plain hM h (hr i d _ hd (Array.getElem?_eq_getElem hlt))⟩
        simp [Instr.extract, hlt]
    · exact h.elim
  · exact h.elim

def semNil (x : D) (M : Mem) (nx : D → Mem → Prop) : Prop :=
  match x with
  | .box id off => nx x M
  | .elt id i off => nx x M
  | .rp sz es i off => nx x M
  | .fn f a b => nx x M
  | _ => False

def semMakeFunc (fn : Fn) (first caps : List D) (M : Mem) (nx : D → Mem → Prop) : Prop :=
  match fn with
  | .func f => first.all isCell = true ∧ caps.all isCell = true ∧ nx (.fn f first caps) M
  | _ => False

/-! ## Fields -/
theorem foT_spec {P : Program} {t : TypeId} {f fo : Nat} {ft : TypeId} (h : foT P t f = some (fo, ft)) : ∃ fs x, P.underlying t = some (.struct fs) ∧ fs[f]? = some x ∧ x.offset = fo ∧ x.type = ft := by
  unfold foT at h
  split at h
  · rename_i fs hs
    cases hx : fs[f]? with
    | none => simp [hx] at h
    | some x => simp [hx] at h; exact ⟨fs, x, hs, hx, h.1, h.2⟩
  · simp at h

theorem fieldAddr_ok {P : Program} {F : Fr} {g M w nx} (hM : MemOk F g M w) {t : TypeId} {f : Nat} {p : D} {u : Value} (hp : Tv g (Ok F g M w) w p u) (h : semFieldAddr P t p f M nx) :
    ∃ v w', (Instr.fieldAt t u f).run P w = .ok v w' ∧ SR F g M w nx v w' := by
  unfold semFieldAddr at h
  split at h
  · rename_i fo ft hfo
    obtain ⟨hsz, h⟩ := h
    obtain ⟨fs, x, hs, hx, rfl, rfl⟩ := foT_spec hfo
    obtain ⟨n, hn⟩ : ∃ n, szT P x.type = some (n + 1) := by
      split at hsz
      · rename_i n hn; exact ⟨n, hn⟩
      · exact hsz.elim
    have hrun : ∀ b o : Nat, (Instr.fieldAt t (.pointer (some ⟨b, o, none⟩)) f).run P w = .ok (.pointer (some ⟨b, o + x.offset, none⟩)) w := by
      intro b o
      simp [Instr.fieldAt, underlying, hs, hx, Instr.sureAddr, fieldPlace, run_sizeOf' hn, addp]
    split at h
    · cases hp.cell rfl with
      | c _ _ h => cases h
      | box _ _ gi hg => exact ⟨_, _, hrun _ _, SR.plain hM h (.c _ _ (.box _ _ gi hg))⟩
    · cases hp.cell rfl with
      | c _ _ h => cases h
      | elt _ _ _ gi hg hi => exact ⟨_, _, hrun _ _, SR.plain hM h (.c _ _ (by rw [Nat.add_assoc]; exact .elt _ _ _ gi hg hi))⟩
    · cases hp.cell rfl with
      | c _ _ hr => cases hr with
        | rp _ _ _ _ b o X h1 h2 h3 h4 h5 => exact ⟨_, _, hrun _ _, SR.plain hM h (.c _ _ (.c _ _ (by rw [Nat.add_assoc]; exact .rp _ _ _ _ b o X h1 h2 h3 h4 h5)))⟩
    · exact h.elim
  · exact h.elim

theorem field_ok {P : Program} {F : Fr} {g M w nx} (hM : MemOk F g M w) {t : TypeId} {f : Nat} {d : D} {u : Value} (hp : Tv g (Ok F g M w) w d u) (h : semField P t d f M nx) :
    ∃ v w', (Instr.field t u f).run P w = .ok v w' ∧ SR F g M w nx v w' := by
  unfold semField at h
  split at h
  · rename_i fo ft cs hfo
    obtain ⟨fs, x, hs, hx, rfl, rfl⟩ := foT_spec hfo
    split at h
    · rename_i ag n hag hn
      cases hp with
      | c _ _ h => cases h with | c _ _ h => cases h
      | agg _ us hl hr =>
        unfold getCells at h
        cases ag with
        | true =>
          simp only [if_true] at h
          refine ⟨.agg (us.extract x.offset (x.offset + n)), w, ?_, SR.plain hM h.2 (.agg _ _ (by simp; omega) fun i d u hd hu => ?_)⟩
          · simp [Instr.field, underlying, hs, hx, part, run_isAgg' hag, run_sizeOf' hn, asAgg]
          · rw [List.getElem?_take] at hd
            split at hd
            · rename_i hi
              rw [List.getElem?_drop] at hd
              rw [Array.getElem?_extract] at hu
              split at hu
              · exact hr _ d u hd hu
              · simp at hu
            · simp at hd
        | false =>
          simp only [Bool.false_eq_true, if_false, getCell] at h
          split at h
          · rename_i y hy
            have hlt : x.offset < us.size := by
              rw [hl]
              rcases Nat.lt_or_ge x.offset cs.length with h | h
              · exact h
              · simp [List.getElem?_eq_none h] at hy
            refine ⟨us[x.offset], w, ?_, SR.plain hM h (.c _ _ (hr _ y _ hy (Array.getElem?_eq_getElem hlt)))⟩
            simp [Instr.field, underlying, hs, hx, part, run_isAgg' hag, asAgg, hlt]
          · exact h.elim
    · exact h.elim
  · exact h.elim

/-! ## Indexes -/
theorem elT_spec {P : Program} {t e : TypeId} (h : elT P t = some e) : P.underlying t = some (.slice e) := by
  unfold elT at h; split at h <;> simp_all
theorem arT_spec {P : Program} {t e : TypeId} {n : Nat} (h : arT P t = some (n, e)) : P.underlying t = some (.array n e) := by
  unfold arT at h; split at h <;> simp_all

theorem run_indexAt_slice {P : Program} {t e : TypeId} {s : Nat} (he : elT P t = some e) (hs : szT P e = some s) {b o len cap : Nat} {k : IntKind} {n : Int} (h0 : 0 ≤ n) (h1 : n < len) (w : World) :
    (Instr.indexAt t (.slice (some ⟨b, o, none⟩) len cap) (.int k n)).run P w = .ok (.pointer (some ⟨b, o + n.toNat * s, none⟩)) w := by
  simp [Instr.indexAt, asIntOf, underlying, elT_spec he, h0, h1, run_sizeOf' hs, addp]

theorem indexAddr_ok {P : Program} {F : Fr} {g M w nx} (hM : MemOk F g M w) {t : TypeId} {x i : D} {u v : Value} (hx : Tv g (Ok F g M w) w x u) (hi : Tv g (Ok F g M w) w i v)
    (h : semIndexAddr P t x i M nx) : ∃ v' w', (Instr.indexAt t u v).run P w = .ok v' w' ∧ SR F g M w nx v' w' := by
  unfold semIndexAddr at h
  split at h
  · rename_i k n
    cases hi.cell rfl with
    | c _ _ hr => cases hr with
      | v =>
        split at h
        · rename_i e q he
          split at h
          · rename_i s sz es hs
            obtain ⟨rfl, ⟨h0, h1⟩, hn⟩ := h
            cases hx.cell rfl with
            | c _ _ hr => cases hr with
              | sl _ _ a c X h2 h3 h4 h5 =>
                have hne : es ≠ [] := fun h => by subst h; simp at h1; omega
                obtain ⟨b, o, rfl, hb, hc⟩ := h4 hne
                refine ⟨_, _, run_indexAt_slice he hs h0 h1 w, SR.plain hM hn (.c _ _ (.c _ _ ?_))⟩
                have := Rc.rp (A := Ok F g M w) (w := w) s es n.toNat 0 b o X h3 (by omega) hb hc h5
                simpa using this
          · rename_i s id hs
            split at h
            · rename_i sz es ex hm
              obtain ⟨rfl, ⟨h0, h1⟩, hn⟩ := h
              cases hx.cell rfl with
              | c _ _ hr => cases hr
              | row _ gi a c hg hlc hcc ha =>
                obtain ⟨gi', hg', hE⟩ := hM.ent id _ hm
                rw [hg] at hg'; cases hg'
                have hl := hE.2.1
                have ha' : a = some ⟨gi.blk, 0, none⟩ := ha.resolve_left (by omega)
                subst ha'
                refine ⟨_, _, run_indexAt_slice he hs h0 (by omega) w, SR.plain hM hn (.c _ _ ?_)⟩
                have := Tc.elt (g := g) (A := Ok F g M w) (w := w) id n.toNat 0 gi hg (by omega)
                rw [hE.1] at this
                simpa using this
            · exact h.elim
          · rename_i s id off k' hs
            split at h
            · rename_i sz es ex hm
              obtain ⟨rfl, ⟨h0, h1⟩, hn⟩ := h
              cases hx.cell rfl with
              | c _ _ hr => cases hr
              | vw _ _ _ gi a c hg ho hkc ha =>
                obtain ⟨gi', hg', hE⟩ := hM.ent id _ hm
                rw [hg] at hg'; cases hg'
                have ha' : a = some ⟨gi.blk, off * gi.sz, none⟩ := ha.resolve_left (by omega)
                subst ha'
                refine ⟨_, _, run_indexAt_slice he hs h0 (by omega) w, SR.plain hM hn (.c _ _ ?_)⟩
                have := Tc.elt (g := g) (A := Ok F g M w) (w := w) id (off + n.toNat) 0 gi hg (by omega)
                rw [hE.1] at this ⊢
                simpa [Nat.add_mul] using this
            · exact h.elim
          · exact h.elim
        · rename_i len e hne he
          split at h
          · rename_i s hs
            obtain ⟨⟨h0, h1⟩, h⟩ := h
            have hrun : ∀ b o : Nat, (Instr.indexAt t (.pointer (some ⟨b, o, none⟩)) (.int k n)).run P w = .ok (.pointer (some ⟨b, o + n.toNat * s, none⟩)) w := by
              intro b o
              simp [Instr.indexAt, asIntOf, underlying, arT_spec he, Instr.sureAddr, h0, h1, run_sizeOf' hs, addp]
            split at h
            · cases hx.cell rfl with
              | c _ _ h => cases h
              | box _ _ gi hg => exact ⟨_, _, hrun _ _, SR.plain hM h (.c _ _ (.box _ _ gi hg))⟩
            · cases hx.cell rfl with
              | c _ _ h => cases h
              | elt _ _ _ gi hg hi => exact ⟨_, _, hrun _ _, SR.plain hM h (.c _ _ (by rw [Nat.add_assoc]; exact .elt _ _ _ gi hg hi))⟩
            · cases hx.cell rfl with
              | c _ _ hr => cases hr with
                | rp _ _ _ _ b o X h1 h2 h3 h4 h5 => exact ⟨_, _, hrun _ _, SR.plain hM h (.c _ _ (.c _ _ (by rw [Nat.add_assoc]; exact .rp _ _ _ _ b o X h1 h2 h3 h4 h5)))⟩
            · exact h.elim
          · exact h.elim
        · exact h.elim
  · exact h.elim

/-! ## Lengths, slices -/
def semLen (P : Program) (t : TypeId) (x : D) (M : Mem) (nx : D → Mem → Prop) : Prop :=
  match x with
  | .v (.string s) => (match P.underlying t with | some .string => True | _ => False) ∧ nx (.v (.int .i64 s.size)) M
  | .vw id off n => (elT P t).isSome = true ∧ nx (.v (.int .i64 n)) M
  | x => match rowsOf M x with
    | some (_, es) => (elT P t).isSome = true ∧ nx (.v (.int .i64 es.length)) M
    | none => False

theorem len_ok {P : Program} {F : Fr} {g M w nx} (hM : MemOk F g M w) {t ty : TypeId} {x : D} {u : Value} (hx : Tv g (Ok F g M w) w x u) (h : semLen P t x M nx) :
    ∃ v w', (Builtin.len_ #[t] ty #[u]).run P w = .ok v w' ∧ SR F g M w nx v w' := by
  have hb : ∀ {n : Int}, nx (.v (.int .i64 n)) M → SR F g M w nx (.int .i64 n) w := fun hn => SR.plain hM hn (.c _ _ (.c _ _ (.v _ rfl)))
  have hsl : ∀ {a : Option Addr} {n c : Nat}, (elT P t).isSome = true → (Builtin.len_ #[t] ty #[.slice a n c]).run P w = .ok (.int .i64 n) w := by
    intro a n c he
    obtain ⟨e, he⟩ := Option.isSome_iff_exists.1 he
    simp [Builtin.len_, underlying, elT_spec he, goInt]
  unfold semLen at h
  split at h
  · rename_i s
    obtain ⟨ht, hn⟩ := h
    have ht' : P.underlying t = some .string := by split at ht <;> simp_all
    cases hx.cell rfl with
    | c _ _ hr => cases hr with
      | v => exact ⟨_, _, by simp [Builtin.len_, underlying, ht', goInt], hb hn⟩
  · obtain ⟨ht, hn⟩ := h
    cases hx.cell rfl with
    | c _ _ hr => cases hr
    | vw _ _ _ gi a c hg ho hk ha => exact ⟨_, _, hsl ht, hb hn⟩
  · rename_i hns hvw
    split at h
    · rename_i sz es hes
      obtain ⟨ht, hn⟩ := h
      cases hx with
      | agg => simp [rowsOf] at hes
      | tup => simp [rowsOf] at hes
      | junk => simp [rowsOf] at hes
      | c _ _ h =>
        cases h with
        | c _ _ hr =>
          cases hr with
          | nils => simp [rowsOf] at hes; obtain ⟨rfl, rfl⟩ := hes; exact ⟨_, _, hsl ht, hb hn⟩
          | sl => simp [rowsOf] at hes; obtain ⟨rfl, rfl⟩ := hes; exact ⟨_, _, hsl ht, hb hn⟩
          | _ => simp [rowsOf] at hes
        | row id gi a c hg hlc hcc ha =>
          simp only [rowsOf] at hes
          split at hes
          · rename_i sz' es' ex hm
            simp at hes; obtain ⟨rfl, rfl⟩ := hes
            obtain ⟨gi', hg', hE⟩ := hM.ent id _ hm
            rw [hg] at hg'; cases hg'
            rw [hE.2.1]
            exact ⟨_, _, hsl ht, hb hn⟩
          · simp at hes
        | vw id off n => exact (hvw id off n rfl).elim
        | _ => simp [rowsOf] at hes
    · exact h.elim

end Go.Abs

/- The abstract machine, seventh part: what makes memory: composite values, slices, append. -/
set_option linter.unusedVariables false
set_option linter.unusedSimpArgs false
namespace Go.Abs
open Go
open Go.Great (foldl_set)

/-- One part goes into the cells. -/
theorem foldl_splice (off : Nat) (l : Array Value) (cs : Array Value) (h : off + l.size ≤ cs.size) :
    (l.zipIdx.foldl (fun cs (x : Value × Nat) => cs.setIfInBounds (off + x.2) x.1) cs).size = cs.size ∧
    ∀ k, (l.zipIdx.foldl (fun cs (x : Value × Nat) => cs.setIfInBounds (off + x.2) x.1) cs)[k]? = if k < off then cs[k]? else if k < off + l.size then l[k - off]? else cs[k]? := by
  have := foldl_set off l.toList 0 cs
  have e : l.zipIdx.foldl (fun cs (x : Value × Nat) => cs.setIfInBounds (off + x.2) x.1) cs = (l.toList.zipIdx 0).foldl (fun cs (x : Value × Nat) => cs.setIfInBounds (off + x.2) x.1) cs := by
    rw [← Array.foldl_toList, Array.toList_zipIdx]
  rw [e]
  refine ⟨this.1, fun k => ?_⟩
  rw [this.2 k]
  simp only [Nat.add_zero, Array.length_toList, Array.getElem?_toList]
  by_cases h1 : k < off
  · rw [if_neg (by omega), if_pos h1]
  · rw [if_neg h1]
    by_cases h2 : k < off + l.size
    · rw [if_pos (by omega), if_pos h2]
    · rw [if_neg (by omega), if_neg h2]

theorem szT_zc {P : Program} {t : TypeId} {zs : List D} (hz : zc P t = some zs) : ∃ i z, P.info? t = some i ∧ i.zero = some z ∧ zs = z.cells.toList.map cellD := zc_spec hz

/-- 'fill' of a composite value, beside fillD. -/
theorem fill_ok {g A w} {place : Nat → Option (Nat × Nat)} : ∀ (parts : List (Nat × D)) (vals : List (Nat × Value)) (cs cs' : List D) (c : Array Value),
    vals.length = parts.length → (∀ (i : Nat) p v, parts[i]? = some p → vals[i]? = some v → p.1 = v.1 ∧ Tv g A w p.2 v.2) → (∀ (i : Nat) p, parts[i]? = some p → (cellsD p.2).all isCell = true) →
    c.size = cs.length → (∀ (i : Nat) d u, cs[i]? = some d → c[i]? = some u → Tc g A w d u) → fillD place cs parts = some cs' →
    ∃ c', Instr.fill place c vals = some c' ∧ c'.size = cs'.length ∧ cs'.length = cs.length ∧ ∀ (i : Nat) d u, cs'[i]? = some d → c'[i]? = some u → Tc g A w d u
  | [], [], cs, cs', c, _, _, _, hl, hr, h => by
    simp only [fillD, Option.some.injEq] at h; subst h
    exact ⟨c, rfl, hl, rfl, hr⟩
  | [], _ :: _, _, _, _, hn, _, _, _, _, _ => by simp at hn
  | _ :: _, [], _, _, _, hn, _, _, _, _, _ => by simp at hn
  | (i, d) :: parts, (i', v) :: vals, cs, cs', c, hn, hp, hc, hl, hr, h => by
    obtain ⟨rfl, hv⟩ := hp 0 (i, d) (i', v) rfl rfl
    simp only at hv
    simp only [fillD] at h
    split at h
    · rename_i off n hpl
      split at h
      · rename_i hcond
        obtain ⟨h1, h2⟩ := hcond
        obtain ⟨hs, hcr⟩ := hv.cells (hc 0 (i, d) rfl)
        obtain ⟨e1, e2⟩ := foldl_splice off v.cells c (by omega)
        obtain ⟨c', k1, k2, k3, k4⟩ := fill_ok parts vals (splice cs off (cellsD d)) cs' _ (by simpa using hn)
          (fun j p q hp' hq' => hp (j + 1) p q (by simpa using hp') (by simpa using hq')) (fun j p hp' => hc (j + 1) p (by simpa using hp')) (by rw [e1, splice_length _ _ _ (by omega)]; exact hl)
          (fun j d' u hd hu => by
            rw [e2 j] at hu
            rw [splice, splice_get _ _ _ _ (by omega)] at hd
            by_cases a1 : j < off
            · rw [if_pos a1] at hd hu; exact hr j d' u hd hu
            · rw [if_neg a1] at hd hu
              by_cases a2 : j < off + (cellsD d).length
              · rw [if_pos a2] at hd; rw [if_pos (by omega)] at hu; exact hcr _ d' u hd hu
              · rw [if_neg a2] at hd; rw [if_neg (by omega)] at hu; exact hr j d' u hd hu) h
        refine ⟨c', ?_, k2, by rw [k3, splice_length _ _ _ (by omega)], k4⟩
        simp only [Instr.fill, hpl]
        rw [if_neg (by simp; omega)]
        exact k1
      · simp at h
    · simp at h

theorem zcells {P : Program} {t : TypeId} {zs : List D} {z : Value} (hz : zs = z.cells.toList.map cellD) (hc : zs.all isCell = true) {A : Nat → Prop} {w : World} :
    z.cells.size = zs.length ∧ ∀ (i : Nat) d u, zs[i]? = some d → z.cells[i]? = some u → Rc A w d u := by
  subst hz
  refine ⟨by simp, fun i d u hd hu => ?_⟩
  simp only [List.getElem?_map, Array.getElem?_toList, hu, Option.map_some, Option.some.injEq] at hd
  subst hd
  refine cellD_ok ?_
  rw [List.all_eq_true] at hc
  exact hc _ (List.mem_map.2 ⟨u, by simpa using Array.mem_of_getElem? hu, rfl⟩)

def partsD (ρ : Operand → D) (parts : Array (Nat × Operand)) : List (Nat × D) := parts.toList.map fun (i, x) => (i, ρ x)

/-- A struct or array literal. -/
def semBuild' (P : Program) (t : TypeId) (parts : List (Nat × D)) (M : Mem) (nx : D → Mem → Prop) : Prop :=
  parts.all (fun p => (cellsD p.2).all isCell) = true ∧
  match zc P t with
  | some zs => zs.all isCell = true ∧ match P.underlying t with
    | some (.struct fs) => match fs.toList.mapM (fun f => (szT P f.type).map fun n => (f.offset, n)) with
      | some places => match fillD (fun i => places[i]?) zs parts with
        | some cs => nx (.agg cs) M
        | none => False
      | none => False
    | some (.array _ e) => match szT P e with
      | some n => match fillD (fun i => some (i * n, n)) zs parts with
        | some cs => nx (.agg cs) M
        | none => False
      | none => False
    | _ => False
  | none => False

theorem run_mapM_places {P : Program} {w : World} : ∀ (fs : List Field) (places : List (Nat × Nat)), fs.mapM (fun f => (szT P f.type).map fun n => (f.offset, n)) = some places →
    (fs.mapM (fun f => do pure (f.offset, ← sizeOf f.type) : Field → Sem (Nat × Nat))).run P w = .ok places w
  | [], places, h => by simp at h; subst h; simp
  | f :: fs, places, h => by
    simp only [List.mapM_cons, Option.bind_eq_bind, Option.pure_def] at h
    cases hs : szT P f.type with
    | none => simp [hs] at h
    | some n =>
      simp only [hs, Option.map_some, Option.bind_some] at h
      cases hr : fs.mapM (fun f => (szT P f.type).map fun n => (f.offset, n)) with
      | none => simp [hr] at h
      | some l =>
        simp [hr] at h; subst h
        have ih := run_mapM_places (w := w) fs l hr
        simp only [List.mapM_cons, Sem.run_bind, run_sizeOf' hs, Result.andThen_ok, Sem.run_pure, ih]

theorem build_ok {P : Program} {F : Fr} {g M w nx} (hM : MemOk F g M w) {t : TypeId} {parts : List (Nat × D)} {vals : Array (Nat × Value)}
    (hl : vals.toList.length = parts.length) (hp : ∀ (i : Nat) p v, parts[i]? = some p → vals.toList[i]? = some v → p.1 = v.1 ∧ Tv g (Ok F g M w) w p.2 v.2) (h : semBuild' P t parts M nx) :
    ∃ v w', (Instr.build t vals).run P w = .ok v w' ∧ SR F g M w nx v w' := by
  obtain ⟨hcell, h⟩ := h
  have hc : ∀ (i : Nat) p, parts[i]? = some p → (cellsD p.2).all isCell = true := fun i p hi => by
    rw [List.all_eq_true] at hcell; exact hcell p (List.mem_of_getElem? hi)
  split at h
  · rename_i zs hz
    obtain ⟨hzc, h⟩ := h
    obtain ⟨i, z, hi, hz', hzs⟩ := zc_spec hz
    obtain ⟨z1, z2⟩ := zcells (P := P) (t := t) (A := Ok F g M w) (w := w) hzs hzc
    split at h
    · rename_i fs hu
      split at h
      · rename_i places hpl
        split at h
        · rename_i cs hf
          obtain ⟨c', k1, k2, k3, k4⟩ := fill_ok parts vals.toList zs cs z.cells hl hp hc z1 (fun i d u a b => .c _ _ (z2 i d u a b)) hf
          refine ⟨.agg c', w, ?_, SR.plain hM h (.agg _ _ k2 k4)⟩
          have hm := run_mapM_places (w := w) fs.toList places hpl
          have hm' : (fs.mapM (fun f => do pure (f.offset, ← sizeOf f.type) : Field → Sem (Nat × Nat))).run P w = .ok places.toArray w := by
            rw [Array.mapM_eq_mapM_toList, Sem.run_map, hm]; rfl
          simp only [Instr.build, Sem.run_bind, run_zeroValue hi hz', Result.andThen_ok, run_underlying hu, hm']
          have : (fun x : Nat => places.toArray[x]?) = fun x => places[x]? := by funext x; simp
          rw [this, k1]; rfl
        · exact h.elim
      · exact h.elim
    · rename_i n e hu
      split at h
      · rename_i k hk
        split at h
        · rename_i cs hf
          obtain ⟨c', k1, k2, k3, k4⟩ := fill_ok parts vals.toList zs cs z.cells hl hp hc z1 (fun i d u a b => .c _ _ (z2 i d u a b)) hf
          refine ⟨.agg c', w, ?_, SR.plain hM h (.agg _ _ k2 k4)⟩
          simp only [Instr.build, Sem.run_bind, run_zeroValue hi hz', Result.andThen_ok, run_underlying hu, run_sizeOf' hk, k1]; rfl
        · exact h.elim
      · exact h.elim
    · exact h.elim
  · exact h.elim

/-! ## New rows -/
/-- A new row with known cells. -/
theorem new_row {F : Fr} {g M w} (hM : MemOk F g M w) {fid : Nat} (hf : M fid = none) (c : Array Value) (T : TypeId) (sz n : Nat) (es : List (List D)) (hn : n ≤ c.size) (hle : es.length * sz ≤ n) (hsz : ∀ e, e ∈ es → e.length = sz)
    (hr : ∀ (i j : Nat) e d u, es[i]? = some e → e[j]? = some d → c[i * sz + j]? = some u → Rc (Ok F g M w) w d u) (cap : Nat) (hcap : es.length ≤ cap) (hcs : cap * sz ≤ n)
    (nx : D → Mem → Prop) (hx : nx (.row fid) (upd M fid (some (.row sz es true)))) :
    SR F g M w nx (.slice (some ⟨w.heap.size, 0, none⟩) es.length cap) { w with heap := w.heap.push (.cells c T (0, 0)) } := by
  obtain ⟨h1, h2⟩ := hM.alloc hf (.cells c T (0, 0)) (.row sz es true) ⟨w.heap.size, n, sz, es.length, true⟩ rfl
    (fun hL => ⟨rfl, rfl, hsz, hle, fun h => by simp at h, fun _ => ⟨fun h => by simp at h, c, T, by simp, hn, fun i j e d u a b k => (hr i j e d u a b k).mono hL.A⟩⟩)
  refine ⟨_, _, _, hx, h1, h2, .c _ _ ?_⟩
  exact .row fid ⟨w.heap.size, n, sz, es.length, true⟩ _ cap (by simp) hcap hcs (.inr rfl)

/-- make([]T, n). -/
def semMakeSlice (P : Program) (t : TypeId) (l c : D) (M : Mem) (fid : Nat) (nx : D → Mem → Prop) : Prop :=
  match l, c with
  | .v (.int _ n), .v (.int _ m) => n = m ∧ match elT P t with
    | some e => match szT P e, byT P e, zc P e with
      | some sz, some by', some zs => zs.length = sz ∧ zs.all isCell = true ∧ 0 ≤ n ∧ n ≤ 9223372036854775807 ∧ by' * n ≤ 281474976710656 ∧ M fid = none ∧
        nx (.row fid) (upd M fid (some (.row sz (List.replicate n.toNat zs) true)))
      | _, _, _ => False
    | none => False
  | _, _ => False

theorem rng0 : Array.range 0 = #[] := rfl

theorem zeroRow {z : Array Value} {n : Nat} {i j : Nat} (hi : i < n) (hj : j < z.size) : ((Array.range (n * z.size)).map fun k => z[k % z.size]!)[i * z.size + j]? = z[j]? := by
  have hlt : i * z.size + j < n * z.size := by
    have : (i + 1) * z.size ≤ n * z.size := Nat.mul_le_mul_right _ hi
    rw [Nat.succ_mul] at this; omega
  have hm : (i * z.size + j) % z.size = j := by rw [Nat.mul_comm, Nat.mul_add_mod]; exact Nat.mod_eq_of_lt hj
  simp [hlt, hm, hj]

theorem makeSlice_ok {P : Program} {F : Fr} {g M w nx} (hM : MemOk F g M w) {t : TypeId} {l c : D} {u v : Value} {fid : Nat} (hl : Tv g (Ok F g M w) w l u) (hc : Tv g (Ok F g M w) w c v)
    (h : semMakeSlice P t l c M fid nx) : ∃ v' w', (Instr.makeSlice t u v).run P w = .ok v' w' ∧ SR F g M w nx v' w' := by
  unfold semMakeSlice at h
  split at h
  · rename_i k n k' m
    obtain ⟨rfl, h⟩ := h
    split at h
    · rename_i e he
      split at h
      · rename_i sz by' zs hs hb hz
        obtain ⟨rfl, hzc, h0, h63, hby, hf, hn⟩ := h
        obtain ⟨i, z, hi, hz', hzs⟩ := zc_spec hz
        obtain ⟨z1, z2⟩ := zcells (P := P) (t := e) (A := Ok F g M w) (w := w) hzs hzc
        cases hl.cell rfl with
        | c _ _ hr => cases hr with
          | v => cases hc.cell rfl with
            | c _ _ hr => cases hr with
              | v =>
                have hib : i.bytes = by' := by simpa [byT, hi] using hb
                have hw : IntKind.i64.wrap n = n := IntWalk.i64_in n (by omega)
                refine ⟨.slice (some ⟨w.heap.size, 0, none⟩) n.toNat n.toNat, { w with heap := w.heap.push (.cells ((Array.range (n.toNat * zs.length)).map fun k => z.cells[k % z.cells.size]!) e (0, 0)) }, ?_, ?_⟩
                · have g1 : ¬ (n < 0) := by omega
                  have g2 : ¬ (281474976710656 < (i.bytes : Int) * n) := by rw [hib]; omega
                  have g3 : (decide (n < 0) || decide ((i.bytes : Int) * n > 2 ^ 48) || decide (n < 0) || decide (n > n)) = false := by simp [g1]; omega
                  simp only [Instr.makeSlice, Sem.run_bind, run_underlying (elT_spec he), Result.andThen_ok, asInt, asIntOf, Sem.run_pure, typeInfo, run_program, hi, hw, run_askRoom, g3, Bool.false_eq_true, if_false, run_sizeOf' hs]
                  split
                  · rename_i hz0; simp [hz0, newRow, rng0]
                  · simp [run_zeroValue hi hz', newRow]
                · have hlen : (List.replicate n.toNat zs).length = n.toNat := by simp
                  have := new_row hM hf ((Array.range (n.toNat * zs.length)).map fun k => z.cells[k % z.cells.size]!) e zs.length (n.toNat * zs.length) (List.replicate n.toNat zs)
                    (by simp) (by simp) (fun e he => by rw [List.mem_replicate] at he; rw [he.2]) (fun a j e' d u' ha hd hu => ?_) n.toNat (by simp) (Nat.le_refl _) nx hn
                  · rw [hlen] at this; exact this
                  · rw [List.getElem?_replicate] at ha
                    split at ha
                    · rename_i han
                      cases ha
                      have hj : j < z.cells.size := by
                        rcases Nat.lt_or_ge j zs.length with h | h
                        · omega
                        · simp [List.getElem?_eq_none h] at hd
                      rw [← z1, zeroRow han hj] at hu
                      exact z2 j d u' hd hu
                    · simp at ha
      · exact h.elim
    · exact h.elim
  · exact h.elim

/-- A slice literal. -/
def bsD (M : Mem) (sz : Nat) (es : List (List D)) : List (Nat × D) → Option (List (List D))
  | [] => some es
  | (i, d) :: l => match mapO (fz M false 1) (cellsD d) with
    | some ds => if ds.length = sz ∧ i < es.length then bsD M sz (es.set i ds) l else none
    | none => none

def semBuildSlice (P : Program) (np : Nat) (t : TypeId) (len : Nat) (parts : List (Nat × D)) (M : Mem) (fid : Nat) (nx : D → Mem → Prop) : Prop :=
  parts.all (fun p => (cellsD p.2).all isCell) = true ∧
  match elT P t with
  | some e => match szT P e, zc P e with
    | some sz, some zs => zs.length = sz ∧ zs.all isCell = true ∧ 0 < sz ∧ len * sz ≤ 16777216 ∧ M fid = none ∧
      match bsD (frzA np M (parts.map (·.2))) sz (List.replicate len zs) parts with
      | some es => nx (.row fid) (upd (frzA np M (parts.map (·.2))) fid (some (.row sz es true)))
      | none => False
    | _, _ => False
  | none => False

theorem frz1_none {np : Nat} {M : Mem} {i fid : Nat} (h : M fid = none) : frz1 np M i fid = none := by
  cases hm : M i with
  | none => simp [frz1, hm, h]
  | some e =>
    have hne : fid ≠ i := fun he => by subst he; rw [h] at hm; cases hm
    cases e with
    | row sz es ex =>
      cases ex
      · simp [frz1, hm, h]
      · simp only [frz1, hm]
        split
        · simp [upd, hne, h]
        · exact h
    | _ => simp [frz1, hm, h]
theorem frz0_none {np : Nat} {M : Mem} {fid : Nat} (d : D) (h : M fid = none) : frz0 np M d fid = none := by
  cases d <;> first | exact frz1_none h | exact h
theorem frzL_none {np fid : Nat} : ∀ (l : List D) {M : Mem}, M fid = none → frzL np M l fid = none
  | [], _, h => h
  | d :: l, _, h => frzL_none l (frz0_none d h)
theorem frz_none {np : Nat} {M : Mem} {fid : Nat} (d : D) (h : M fid = none) : frz np M d fid = none := by
  cases d with
  | agg cs => exact frzL_none cs h
  | box id off =>
    cases hm : M id with
    | none => simp [frz, hm, h]
    | some e => cases e <;> simp only [frz, hm] <;> first | exact frzL_none _ h | exact h
  | row id => exact frz0_none (.row id) h
  | vw id o n => exact frz0_none (.vw id o n) h
  | elt id i o => exact frz0_none (.elt id i o) h
  | _ => exact h
theorem frzA_none {np fid : Nat} : ∀ (l : List D) {M : Mem}, M fid = none → frzA np M l fid = none
  | [], _, h => h
  | d :: l, _, h => frzA_none l (frz_none d h)

theorem fillRow_ok {F : Fr} {g M w} (hM : MemOk F g M w) {sz : Nat} : ∀ (parts : List (Nat × D)) (vals : List (Nat × Value)) (es es' : List (List D)) (c : Array Value),
    vals.length = parts.length → (∀ (i : Nat) p v, parts[i]? = some p → vals[i]? = some v → p.1 = v.1 ∧ Tv g (Ok F g M w) w p.2 v.2) → (∀ (i : Nat) p, parts[i]? = some p → (cellsD p.2).all isCell = true) →
    c.size = es.length * sz → (∀ e, e ∈ es → e.length = sz) → (∀ (i j : Nat) e d u, es[i]? = some e → e[j]? = some d → c[i * sz + j]? = some u → Rc (Ok F g M w) w d u) → bsD M sz es parts = some es' →
    ∃ c', Instr.fill (fun i => some (i * sz, sz)) c vals = some c' ∧ c'.size = c.size ∧ es'.length = es.length ∧ (∀ e, e ∈ es' → e.length = sz) ∧
      ∀ (i j : Nat) e d u, es'[i]? = some e → e[j]? = some d → c'[i * sz + j]? = some u → Rc (Ok F g M w) w d u
  | [], [], es, es', c, _, _, _, hl, hs, hr, h => by
    simp only [bsD, Option.some.injEq] at h; subst h
    exact ⟨c, rfl, rfl, rfl, hs, hr⟩
  | [], _ :: _, _, _, _, hn, _, _, _, _, _, _ => by simp at hn
  | _ :: _, [], _, _, _, hn, _, _, _, _, _, _ => by simp at hn
  | (i, d) :: parts, (i', v) :: vals, es, es', c, hn, hp, hc, hl, hs, hr, h => by
    obtain ⟨rfl, hv⟩ := hp 0 (i, d) (i', v) rfl rfl
    simp only at hv
    simp only [bsD] at h
    split at h
    · rename_i ds hds
      split at h
      · rename_i hcond
        obtain ⟨h1, h2⟩ := hcond
        obtain ⟨hsz, hcr⟩ := hv.cells (hc 0 (i, d) rfl)
        have hdl := mapO_length hds
        have hrow : i * sz + sz ≤ es.length * sz := by rw [← Nat.succ_mul]; exact Nat.mul_le_mul_right _ h2
        obtain ⟨e1, e2⟩ := foldl_splice (i * sz) v.cells c (by omega)
        obtain ⟨c', k1, k2, k3, k4, k5⟩ := fillRow_ok hM parts vals (es.set i ds) es' _ (by simpa using hn)
          (fun j p q hp' hq' => hp (j + 1) p q (by simpa using hp') (by simpa using hq')) (fun j p hp' => hc (j + 1) p (by simpa using hp')) (by rw [e1]; simpa using hl)
          (fun e he => by
            rcases List.mem_or_eq_of_mem_set he with he | he
            · exact hs e he
            · rw [he, h1])
          (fun a j e d' u he hd hu => by
            rw [e2] at hu
            by_cases hai : a = i
            · subst hai
              rw [List.getElem?_set_self h2] at he; cases he
              have hj : j < sz := by
                rcases Nat.lt_or_ge j ds.length with h | h
                · omega
                · simp [List.getElem?_eq_none h] at hd
              rw [if_neg (by omega), if_pos (by omega), show a * sz + j - a * sz = j from by omega] at hu
              obtain ⟨x, hx1, hx2⟩ := mapO_get hds hd
              have ht := hcr j x u hx1 hu
              exact fz_ok hM (fun _ h => h) (fun h => by simp at h) 1 ht.isCell ht hx2
            · rw [List.getElem?_set_ne (fun h => hai h.symm)] at he
              have hj : j < sz := by
                have := hs e (List.mem_of_getElem? he)
                rcases Nat.lt_or_ge j e.length with h | h
                · omega
                · simp [List.getElem?_eq_none h] at hd
              refine hr a j e d' u he hd ?_
              rcases Nat.lt_or_gt_of_ne hai with hlt | hgt
              · have : a * sz + sz ≤ i * sz := by rw [← Nat.succ_mul]; exact Nat.mul_le_mul_right _ hlt
                rw [if_pos (by omega)] at hu; exact hu
              · have : i * sz + sz ≤ a * sz := by rw [← Nat.succ_mul]; exact Nat.mul_le_mul_right _ hgt
                rw [if_neg (by omega), if_neg (by omega)] at hu; exact hu) h
        refine ⟨c', ?_, by rw [k2, e1], by simpa using k3, k4, k5⟩
        simp only [Instr.fill]
        rw [if_neg (by simp; omega)]
        exact k1
      · simp at h
    · simp at h

theorem buildSlice_ok {P : Program} {F : Fr} {g M w nx} (hM : MemOk F g M w) {t : TypeId} {len fid : Nat} {parts : List (Nat × D)} {vals : Array (Nat × Value)}
    (hl : vals.toList.length = parts.length) (hp : ∀ (i : Nat) p v, parts[i]? = some p → vals.toList[i]? = some v → p.1 = v.1 ∧ Tv g (Ok F g M w) w p.2 v.2) (h : semBuildSlice P F.np t len parts M fid nx) :
    ∃ v w', (Instr.buildSlice t len vals).run P w = .ok v w' ∧ SR F g M w nx v w' := by
  obtain ⟨hcell, h⟩ := h
  have hc : ∀ (i : Nat) p, parts[i]? = some p → (cellsD p.2).all isCell = true := fun i p hi => by
    rw [List.all_eq_true] at hcell; exact hcell p (List.mem_of_getElem? hi)
  split at h
  · rename_i e he
    split at h
    · rename_i sz zs hs hz
      obtain ⟨rfl, hzc, h0, h24, hf, h⟩ := h
      obtain ⟨i, z, hi, hz', hzs⟩ := zc_spec hz
      obtain ⟨f1, f2⟩ := frzA_ok (parts.map (·.2)) hM
      have hf' := frzA_none (np := F.np) (parts.map (·.2)) hf
      obtain ⟨z1, z2⟩ := zcells (P := P) (t := e) (A := Ok F g (frzA F.np M (parts.map (·.2))) w) (w := w) hzs hzc
      split at h
      · rename_i es hes
        obtain ⟨c', k1, k2, k3, k4, k5⟩ := fillRow_ok f1 parts vals.toList (List.replicate len zs) es
          ((Array.range (len * zs.length)).map fun k => z.cells[k % z.cells.size]!)
          hl (fun i p v a b => ⟨(hp i p v a b).1, (hp i p v a b).2.mono f2⟩) hc (by simp) (fun e he => by rw [List.mem_replicate] at he; rw [he.2])
          (fun a j e' d u' ha hd hu => by
            rw [List.getElem?_replicate] at ha
            split at ha
            · rename_i han
              cases ha
              have hj : j < z.cells.size := by
                rcases Nat.lt_or_ge j zs.length with h | h
                · omega
                · simp [List.getElem?_eq_none h] at hd
              rw [← z1, zeroRow han hj] at hu
              exact z2 j d u' hd hu
            · simp at ha) hes
        have hlen : es.length = len := by simpa using k3
        have hn24 : ¬ (16777216 < len * zs.length) := by omega
        refine ⟨.slice (some ⟨w.heap.size, 0, none⟩) len len, { w with heap := w.heap.push (.cells c' e (0, 0)) }, ?_, ?_⟩
        · simp only [Instr.buildSlice, Sem.run_bind, run_underlying (elT_spec he), Result.andThen_ok, run_sizeOf' hs]
          rw [if_neg (by simpa using hn24)]
          split
          · rename_i hz0
            simp only [hz0, rng0, Array.map_empty, Sem.run_bind, Sem.run_pure, Result.andThen_ok] at k1 ⊢
            simp only [k1, Sem.run_bind, newRow, run_newObj, Sem.run_pure, Result.andThen_ok]
          · simp only [Sem.run_bind, run_zeroValue hi hz', Result.andThen_ok, Sem.run_pure, k1, newRow, run_newObj]
        · have := new_row f1 hf' c' e zs.length (len * zs.length) es (by rw [k2]; simp) (by rw [hlen]; exact Nat.le_refl _) k4 k5 len (by omega) (Nat.le_refl _) nx h
          rw [hlen] at this
          exact SR.then f1 f2 this
      · exact h.elim
    · exact h.elim
  · exact h.elim

/-! ## Sub-slices -/
def boundD (d : Option D) (dflt : Int) : Option Int :=
  match d with
  | none => some dflt
  | some (.v (.int _ n)) => some n
  | _ => none

def lenD (M : Mem) : D → Option Nat
  | .vw _ _ n => some n
  | x => (rowsOf M x).map (·.2.length)

def semSlice (P : Program) (t : TypeId) (x : D) (lo hi : Option D) (M : Mem) (nx : D → Mem → Prop) : Prop :=
  match x with
  | .v (.string s) => (match P.underlying t with | some .string => True | _ => False) ∧ match boundD lo 0, boundD hi s.size with
    | some l, some h => (0 ≤ l ∧ l ≤ h ∧ h ≤ s.size) ∧ nx (.v (.string (s.extract l.toNat h.toNat))) M
    | _, _ => False
  | x => (match elT P t with | some e => (szT P e).isSome = true | none => False) ∧ match lenD M x with
    | some n => match boundD lo 0, boundD hi n with
      | some l, some h => (0 ≤ l ∧ l ≤ h ∧ h ≤ n) ∧ match x with
        | .nils => nx .nils M
        | .sl sz es => (match elT P t with | some e => szT P e = some sz | none => False) ∧ nx (.sl sz ((es.drop l.toNat).take (h.toNat - l.toNat))) M
        | .row id => (match elT P t, M id with | some e, some (.row sz _ _) => szT P e = some sz | _, _ => False) ∧ nx (.vw id l.toNat (h.toNat - l.toNat)) M
        | .vw id off k => (match elT P t, M id with | some e, some (.row sz _ _) => szT P e = some sz | _, _ => False) ∧ nx (.vw id (off + l.toNat) (h.toNat - l.toNat)) M
        | _ => False
      | _, _ => False
    | none => False

theorem bound_ok {g A w} {d : Option D} {v : Option Value} {n dflt : Int} (hv : match d, v with | none, none => True | some d, some v => Tv g A w d v | _, _ => False) (h : boundD d dflt = some n) :
    (v = none ∧ n = dflt) ∨ ∃ k, v = some (.int k n) := by
  unfold boundD at h
  split at h
  · cases v with
    | none => simp at h; exact .inl ⟨rfl, h.symm⟩
    | some v => exact hv.elim
  · simp at h; subst h
    cases v with
    | none => exact hv.elim
    | some v =>
      right
      cases (show Tv g A w _ v from hv).cell rfl with
      | c _ _ hr => cases hr with
        | v => exact ⟨_, rfl⟩
  · simp at h

theorem run_sliceBounds {P : Program} {w : World} {isS : Bool} {len cap : Nat} {lo hi : Option Value} {l h : Int}
    (hl : (lo = none ∧ l = 0) ∨ ∃ k, lo = some (.int k l)) (hh : (hi = none ∧ h = len) ∨ ∃ k, hi = some (.int k h)) (h0 : 0 ≤ l) (h1 : l ≤ h) (h2 : h ≤ len) (h3 : len ≤ cap) :
    (Instr.sliceBounds isS len cap lo hi none).run P w = .ok (l.toNat, h.toNat, cap) w := by
  have c1 : 0 ≤ h ∧ h ≤ cap := ⟨by omega, by omega⟩
  have c2 : 0 ≤ l ∧ l ≤ (h.toNat : Int) := ⟨h0, by omega⟩
  rcases hl with ⟨rfl, rfl⟩ | ⟨k, rfl⟩ <;> rcases hh with ⟨rfl, rfl⟩ | ⟨k', rfl⟩
  · simp [Instr.sliceBounds]
  · simp [Instr.sliceBounds, Instr.sliceBound, asIntOf, c1]
  · have c3 : l ≤ (len : Int) := by omega
    simp [Instr.sliceBounds, Instr.sliceBound, asIntOf, h0, c3]
  · have c3 : l ≤ max h 0 := by omega
    simp [Instr.sliceBounds, Instr.sliceBound, asIntOf, c1, h0, c3]

theorem slice_ok {P : Program} {F : Fr} {g M w nx} (hM : MemOk F g M w) {t : TypeId} {x : D} {u : Value} {lo hi : Option D} {lov hiv : Option Value} (hx : Tv g (Ok F g M w) w x u)
    (hlo : match lo, lov with | none, none => True | some d, some v => Tv g (Ok F g M w) w d v | _, _ => False)
    (hhi : match hi, hiv with | none, none => True | some d, some v => Tv g (Ok F g M w) w d v | _, _ => False)
    (h : semSlice P t x lo hi M nx) : ∃ v' w', (Instr.sliceAt t u lov hiv none).run P w = .ok v' w' ∧ SR F g M w nx v' w' := by
  unfold semSlice at h
  split at h
  · rename_i s
    obtain ⟨ht, h⟩ := h
    have ht' : P.underlying t = some .string := by split at ht <;> simp_all
    split at h
    · rename_i l hh hl' hh'
      obtain ⟨⟨h0, h1, h2⟩, hn⟩ := h
      cases hx.cell rfl with
      | c _ _ hr => cases hr with
        | v =>
          have hb := run_sliceBounds (P := P) (w := w) (isS := false) (len := s.size) (cap := s.size) (lo := lov) (hi := hiv)
            (bound_ok hlo hl') (bound_ok hhi hh') h0 h1 h2 (Nat.le_refl _)
          refine ⟨_, _, ?_, SR.plain hM hn (.c _ _ (.c _ _ (.v _ rfl)))⟩
          simp [Instr.sliceAt, Instr.slice, run_underlying ht', hb]
    · exact h.elim
  · obtain ⟨hsz, h⟩ := h
    split at hsz
    · rename_i e he
      obtain ⟨size, hs⟩ := Option.isSome_iff_exists.1 hsz
      split at h
      · rename_i n hln
        split at h
        · rename_i l hh hl' hh'
          obtain ⟨⟨h0, h1, h2⟩, h⟩ := h
          have hrun : ∀ (a : Option Addr) (c : Nat), n ≤ c → (Instr.sliceAt t (.slice a n c) lov hiv none).run P w = .ok (.slice (if c = l.toNat then a else a.map (·.add (l.toNat * size))) (hh.toNat - l.toNat) (c - l.toNat)) w := by
            intro a c hc
            have hb := run_sliceBounds (P := P) (w := w) (isS := true) (len := n) (cap := c) (lo := lov) (hi := hiv)
              (bound_ok hlo hl') (bound_ok hhi hh') h0 h1 h2 hc
            simp [Instr.sliceAt, Instr.slice, run_underlying (elT_spec he), hb, run_sizeOf' hs]
          split at h
          · simp [lenD, rowsOf] at hln; subst hln
            have : l = 0 := by omega
            subst this
            have : hh = 0 := by omega
            subst this
            cases hx.cell rfl with
            | c _ _ hr => cases hr with
              | nils => exact ⟨_, _, hrun none 0 (Nat.le_refl _), SR.plain hM h (by simpa using .c _ _ (.c _ _ .nils))⟩
          · rename_i sz es _
            obtain ⟨hsz', hn⟩ := h
            simp only [he] at hsz'
            rw [hs] at hsz'; cases hsz'
            simp [lenD, rowsOf] at hln; subst hln
            cases hx.cell rfl with
            | c _ _ hr => cases hr with
              | sl _ _ a c X h3 h4 h5 h6 =>
                refine ⟨_, _, hrun a c h3, SR.plain hM hn (.c _ _ (.c _ _ ?_))⟩
                have hlen : ((es.drop l.toNat).take (hh.toNat - l.toNat)).length = hh.toNat - l.toNat := by simp; omega
                have key := Rc.sl (A := Ok F g M w) (w := w) size ((es.drop l.toNat).take (hh.toNat - l.toNat)) (if c = l.toNat then a else a.map (·.add (l.toNat * size))) (c - l.toNat) (fun i j => X (l.toNat + i) j) (by omega)
                  (fun e he => h4 e (List.mem_of_mem_drop (List.mem_of_mem_take he))) (fun hne => ?_) (fun i j e d he hd => ?_)
                · rw [hlen] at key; exact key
                · have hpos : l.toNat < hh.toNat := by
                    rcases Nat.lt_or_ge l.toNat hh.toNat with h | h
                    · exact h
                    · exact absurd (by rw [← List.length_eq_zero_iff, hlen]; omega) hne
                  have hes : es ≠ [] := fun h => by subst h; simp at h2; omega
                  obtain ⟨b, o, rfl, hb, hc⟩ := h5 hes
                  refine ⟨b, o + l.toNat * size, ?_, hb, fun i j hi hj => ?_⟩
                  · rw [if_neg (by omega)]; simp [addp]
                  · rw [hlen] at hi
                    have := hc (l.toNat + i) j (by omega) hj
                    rw [Nat.add_mul, ← Nat.add_assoc] at this; exact this
                · rw [List.getElem?_take] at he
                  split at he
                  · rw [List.getElem?_drop] at he; exact h6 _ j e d he hd
                  · simp at he
          · rename_i id _
            obtain ⟨hsz', hn⟩ := h
            cases hx.cell rfl with
            | c _ _ hr => cases hr
            | row _ gi a c hg hlc hcc ha =>
              split at hsz'
              · rename_i e' sz es ex he' hm
                rw [he] at he'; cases he'
                rw [hs] at hsz'; cases hsz'
                obtain ⟨gi', hg', hE⟩ := hM.ent id _ hm
                rw [hg] at hg'; cases hg'
                simp [lenD, rowsOf, hm] at hln; subst hln
                rw [hE.2.1] at hlc ⊢
                refine ⟨_, _, hrun a c hlc, SR.plain hM hn (.c _ _ ?_)⟩
                refine .vw id l.toNat (hh.toNat - l.toNat) gi _ _ hg (by rw [hE.2.1]; omega) (by omega) ?_
                by_cases hz : hh.toNat - l.toNat = 0
                · exact .inl hz
                · right
                  rw [if_neg (by omega), ha.resolve_left (by omega)]
                  simp [addp, hE.1]
              · exact hsz'.elim
          · rename_i id off k _
            obtain ⟨hsz', hn⟩ := h
            cases hx.cell rfl with
            | c _ _ hr => cases hr
            | vw _ _ _ gi a c hg ho hkc ha =>
              split at hsz'
              · rename_i e' sz es ex he' hm
                rw [he] at he'; cases he'
                rw [hs] at hsz'; cases hsz'
                obtain ⟨gi', hg', hE⟩ := hM.ent id _ hm
                rw [hg] at hg'; cases hg'
                simp [lenD] at hln; subst hln
                refine ⟨_, _, hrun a c hkc, SR.plain hM hn (.c _ _ ?_)⟩
                refine .vw id (off + l.toNat) (hh.toNat - l.toNat) gi _ _ hg (by omega) (by omega) ?_
                by_cases hz : hh.toNat - l.toNat = 0
                · exact .inl hz
                · right
                  rw [if_neg (by omega), ha.resolve_left (by omega)]
                  simp [addp, hE.1, Nat.add_mul]
              · exact hsz'.elim
          · exact h.elim
        · exact h.elim
      · exact h.elim
    · exact hsz.elim

end Go.Abs

/- The abstract machine, eighth part: append. -/
set_option linter.unusedVariables false
set_option linter.unusedSimpArgs false
namespace Go.Abs
open Go

def semAppend (P : Program) (np : Nat) (t t2 : TypeId) (s x : D) (M : Mem) (fid : Nat) (nx : D → Mem → Prop) : Prop :=
  (elT P t2).isSome = true ∧
  match elT P t with
  | some e => match szT P e, byT P e, zc P e, rowsOf M x with
    | some sz, some by', some zs, some (szx, ys) => zs.length = sz ∧ 0 < sz ∧ M fid = none ∧ (ys ≠ [] → szx = sz) ∧
      match s with
      | .nils => ys.length * by' ≤ 140737488355328 ∧ ys.length ≤ 4611686018427387904 ∧ nx (.row fid) (upd M fid (some (.row sz ys true)))
      | .row id => match M id with
        | some (.row sz' xs true) => sz' = sz ∧ np ≤ id ∧ (xs.length + ys.length) * by' ≤ 140737488355328 ∧ xs.length + ys.length ≤ 4611686018427387904 ∧
          nx (.row fid) (upd (upd M id (some .dead)) fid (some (.row sz (xs ++ ys) true)))
        | _ => False
      | _ => False
    | _, _, _, _ => False
  | none => False

/-- A row of no elements, without a block. -/
theorem MemOk.addNil {F : Fr} {g M w} (h : MemOk F g M w) {f : Nat} (hf : M f = none) (sz : Nat) :
    MemOk F (upd g f (some ⟨0, 0, sz, 0, false⟩)) (upd M f (some (.row sz [] true))) w ∧
      Le g (Ok F g M w) w (upd g f (some ⟨0, 0, sz, 0, false⟩)) (Ok F (upd g f (some ⟨0, 0, sz, 0, false⟩)) (upd M f (some (.row sz [] true))) w) w := by
  have hgf := h.gnone hf
  refine h.step (fun _ => False) (fun id gi' hg => ?_) (fun id gi' hg => ?_) (fun _ _ _ => rfl) (fun _ _ h => h) (fun _ h => h.elim) (Nat.le_refl _) rfl rfl rfl (fun hL id e' hm => ?_) (fun id e' gi' hm hx hg hlv => ?_) (fun i j ei ej gi' gj hij hi hj hxi hxj hgi hgj hlvi hlvj => ?_)
  · by_cases hid : id = f
    · subst hid; simp [hgf] at hg
    · simpa [upd, hid] using hg
  · by_cases hid : id = f
    · subst hid; exact ⟨_, by simp; rfl⟩
    · simp only [upd, hid, if_false] at hg ⊢; exact h.dom id gi' hg
  · by_cases hid : id = f
    · subst hid
      simp only [upd_same, Option.some.injEq] at hm; subst hm
      exact .inr ⟨_, by simp; rfl, rfl, rfl, by simp, by simp, fun _ => ⟨rfl, rfl⟩, fun h => by simp at h⟩
    · simp only [upd, hid, if_false] at hm
      exact .inl ⟨hm, fun _ _ _ _ h => h⟩
  · by_cases hid : id = f
    · subst hid
      simp only [upd_same, Option.some.injEq] at hg; subst hg; simp at hlv
    · simp only [upd, hid, if_false] at hm hg
      exact .inl ⟨hm, hg⟩
  · by_cases hif : i = f
    · subst hif; simp only [upd_same, Option.some.injEq] at hgi; subst hgi; simp at hlvi
    · by_cases hjf : j = f
      · subst hjf; simp only [upd_same, Option.some.injEq] at hgj; subst hgj; simp at hlvj
      · simp only [upd, hif, hjf, if_false] at hi hj hgi hgj
        exact h.inj i j ei ej gi' gj hij hi hj hxi hxj hgi hgj hlvi hlvj

/-- The cells of a block, as a list. -/
def cellsAt (w : World) (b o n : Nat) : List Value := (List.range n).map fun k => (w.cell? ⟨b, o + k, none⟩).getD undef
theorem cellsAt_get {w : World} {b o n k : Nat} (h : k < n) {u : Value} (hu : w.cell? ⟨b, o + k, none⟩ = some u) : (cellsAt w b o n)[k]? = some u := by
  simp [cellsAt, h, hu]

theorem rowIdx {sz n k : Nat} (hsz : 0 < sz) (hk : k < n * sz) : k / sz < n ∧ k % sz < sz ∧ k / sz * sz + k % sz = k := by
  refine ⟨?_, Nat.mod_lt _ hsz, ?_⟩
  · rw [Nat.div_lt_iff_lt_mul hsz]; exact hk
  · rw [Nat.mul_comm]; exact Nat.div_add_mod k sz

/-- What is appended. -/
theorem src_ok {P : Program} {F : Fr} {g M w} (hM : MemOk F g M w) {t2 : TypeId} (ht : (elT P t2).isSome = true) {x : D} {u : Value} (hx : Tv g (Ok F g M w) w x u) {sz szx : Nat} {ys : List (List D)} (hsz : 0 < sz)
    (hr : rowsOf M x = some (szx, ys)) (hszx : ys ≠ [] → szx = sz) :
    ∃ news, Src P sz t2 u ys.length news w ∧ (∀ e, e ∈ ys → e.length = sz) ∧ ∀ (i j : Nat) e d v, ys[i]? = some e → e[j]? = some d → news[i * sz + j]? = some v → Rc (Ok F g M w) w d v := by
  obtain ⟨e', he'⟩ := Option.isSome_iff_exists.1 ht
  have hk := elT_spec he'
  -- a slice with an address
  have key : ∀ (a : Addr) (c : Nat), (∀ i j, i < ys.length → j < sz → ∃ v, w.cell? (a.add (i * sz + j)) = some v ∧ ∀ e d, ys[i]? = some e → e[j]? = some d → Rc (Ok F g M w) w d v) → (∀ e, e ∈ ys → e.length = sz) →
      ∃ news, Src P sz t2 (.slice (some a) ys.length c) ys.length news w ∧ (∀ e, e ∈ ys → e.length = sz) ∧ ∀ (i j : Nat) e d v, ys[i]? = some e → e[j]? = some d → news[i * sz + j]? = some v → Rc (Ok F g M w) w d v := by
    intro a c hc hl
    have hX : ∀ k, ∃ v, k < ys.length * sz → w.cell? (a.add k) = some v := by
      intro k
      by_cases hk : k < ys.length * sz
      · obtain ⟨h1, h2, h3⟩ := rowIdx hsz hk
        obtain ⟨v, hv, _⟩ := hc _ _ h1 h2
        exact ⟨v, fun _ => by rw [h3] at hv; exact hv⟩
      · exact ⟨undef, fun h => absurd h hk⟩
    obtain ⟨X, hX⟩ := Classical.axiomOfChoice hX
    refine ⟨(List.range (ys.length * sz)).map X, Src.ofSlice w hk a ys.length c _ (by simp) (fun j v hj => ?_) (fun v hv => ?_), hl, fun i j e d v he hd hv => ?_⟩
    · by_cases hlt : j < ys.length * sz
      · simp [hlt] at hj; rw [← hj]; exact hX j hlt
      · simp [hlt] at hj
    · obtain ⟨j, hj, rfl⟩ := List.mem_map.1 hv
      have hlt : j < ys.length * sz := by simpa using hj
      obtain ⟨h1, h2, h3⟩ := rowIdx hsz hlt
      obtain ⟨v, hv', hr⟩ := hc _ _ h1 h2
      rw [h3, hX j hlt] at hv'; cases hv'
      have he : ys[j / sz]? = some ys[j / sz] := List.getElem?_eq_getElem h1
      have := hl _ (List.getElem_mem h1)
      exact (hr _ _ he (List.getElem?_eq_getElem (by omega))).one
    · have hi : i < ys.length := by
        rcases Nat.lt_or_ge i ys.length with h | h
        · exact h
        · simp [List.getElem?_eq_none h] at he
      have hj : j < sz := by
        have := hl e (List.mem_of_getElem? he)
        rcases Nat.lt_or_ge j e.length with h | h
        · omega
        · simp [List.getElem?_eq_none h] at hd
      have hlt : i * sz + j < ys.length * sz := by
        have : i * sz + sz ≤ ys.length * sz := by rw [← Nat.succ_mul]; exact Nat.mul_le_mul_right _ hi
        omega
      obtain ⟨v', hv', hr⟩ := hc i j hi hj
      simp [hlt] at hv
      rw [hX _ hlt] at hv'; cases hv'
      rw [← hv]; exact hr e d he hd
  have knil : ∀ (a : Option Addr) (c : Nat), ys = [] → u = .slice a 0 c → ∃ news, Src P sz t2 u ys.length news w ∧ (∀ e, e ∈ ys → e.length = sz) ∧ ∀ (i j : Nat) e d v, ys[i]? = some e → e[j]? = some d → news[i * sz + j]? = some v → Rc (Ok F g M w) w d v := by
    intro a c hy hu
    subst hu; subst hy
    refine ⟨[], ?_, by simp, by simp⟩
    cases a with
    | none => exact Src.ofNil w hk c
    | some a => exact Src.ofSlice w hk a 0 c [] (by simp) (by simp) (by simp)
  cases hx with
  | agg => simp [rowsOf] at hr
  | tup => simp [rowsOf] at hr
  | junk => simp [rowsOf] at hr
  | c _ _ h =>
    have hrow : ∀ {id sz' : Nat} {es : List (List D)} {ex : Bool} {gi : GI}, M id = some (.row sz' es ex) → g id = some gi → ∀ (off n : Nat) (a : Option Addr) (c : Nat), off + n ≤ es.length → ys = (es.drop off).take n → szx = sz' → u = .slice a n c →
        (n = 0 ∨ a = some ⟨gi.blk, off * sz', none⟩) → ∃ news, Src P sz t2 u ys.length news w ∧ (∀ e, e ∈ ys → e.length = sz) ∧ ∀ (i j : Nat) e d v, ys[i]? = some e → e[j]? = some d → news[i * sz + j]? = some v → Rc (Ok F g M w) w d v := by
      intro id sz' es ex gi hm hg off n a c hon hys hsx hu ha
      have hlen : ys.length = n := by rw [hys]; simp; omega
      by_cases hn : n = 0
      · subst hn; exact knil a c (List.length_eq_zero_iff.1 hlen) hu
      · have hne : ys ≠ [] := fun h => by rw [h] at hlen; simp at hlen; omega
        have := hszx hne
        subst hsx; subst this
        have ha := ha.resolve_left hn
        subst ha; subst hu
        rw [← hlen]
        obtain ⟨gi', hg', hE⟩ := hM.ent id _ hm
        rw [hg] at hg'; cases hg'
        refine key _ c (fun i j hi hj => ?_) (fun e he => hE.2.2.1 e (by rw [hys] at he; exact List.mem_of_mem_drop (List.mem_of_mem_take he)))
        have he : es[off + i]? = some es[off + i] := List.getElem?_eq_getElem (by omega)
        have hl := hE.2.2.1 _ (List.getElem_mem (l := es) (n := off + i) (by omega))
        obtain ⟨_, v, hv, hrr⟩ := hM.rowCell hm hg he j _ (List.getElem?_eq_getElem (by omega))
        refine ⟨v, ?_, fun e d h1 h2 => ?_⟩
        · rw [addp, ← Nat.add_assoc, ← Nat.add_mul]; exact hv
        · rw [hys, List.getElem?_take, if_pos (by omega), List.getElem?_drop, he] at h1
          cases h1
          rw [List.getElem?_eq_getElem (by omega)] at h2; cases h2
          exact hrr
    cases h with
    | c _ _ hrc =>
      cases hrc with
      | nils => simp [rowsOf] at hr; exact knil none 0 hr.2 rfl
      | sl sz' es a c X h1 h2 h3 h4 =>
        simp [rowsOf] at hr
        obtain ⟨rfl, rfl⟩ := hr
        by_cases hne : es = []
        · exact knil a c hne (by rw [hne]; rfl)
        · have := hszx hne
          subst this
          obtain ⟨b, o, rfl, hb, hc⟩ := h3 hne
          refine key _ c (fun i j hi hj => ⟨X i j, by rw [addp, ← Nat.add_assoc]; exact hc i j hi hj, fun e d he hd => h4 i j e d he hd⟩) h2
      | _ => simp [rowsOf] at hr
    | row id gi a c hg hlc hcc ha =>
      simp only [rowsOf] at hr
      split at hr
      · rename_i sz' es ex hm
        simp at hr; obtain ⟨rfl, rfl⟩ := hr
        obtain ⟨gi', hg', hE⟩ := hM.ent id _ hm
        rw [hg] at hg'; cases hg'
        have hl := hE.2.1
        exact hrow hm hg 0 gi.len a c (by omega) (by rw [hl]; simp) rfl rfl (by
          rcases ha with ha | ha
          · left; omega
          · right; simpa using ha)
      · simp at hr
    | vw id off n gi a c hg ho hnc ha =>
      simp only [rowsOf] at hr
      split at hr
      · rename_i sz' es ex hm
        simp at hr; obtain ⟨rfl, rfl⟩ := hr
        obtain ⟨gi', hg', hE⟩ := hM.ent id _ hm
        rw [hg] at hg'; cases hg'
        exact hrow hm hg off n a c (by rw [← hE.2.1]; exact ho) rfl rfl rfl (by rw [← hE.1]; exact ha)
      · simp at hr
    | _ => simp [rowsOf] at hr

theorem setCells_eq_setRow {P : Program} {w : World} {b o : Nat} {T : TypeId} {c : Array Value} {vs : List Value} (hb : w.heap[b]? = some (.cells c T (0, 0))) (hl : o + vs.length ≤ c.size) (h1 : ∀ v ∈ vs, v.oneCell' = true) :
    w.setCells b o vs = w.setRow b (c.toList.take o ++ vs ++ c.toList.drop (o + vs.length)).toArray := by
  have e1 := run_storeCells_at P b o T vs 0 c w hb (by simpa using hl) h1
  have e2 := run_storeCells_cells (P := P) b o vs 0 w (fun j hj => by rw [cell_of_row w _ _ c T (0, 0) hb]; simp; omega) (fun j hj => by simp [World.frozen?, hb]) h1
  rw [e1] at e2
  simp only [Nat.add_zero, Result.ok.injEq, true_and] at e2
  exact e2.symm

theorem cells_append {sz : Nat} {xs ys : List (List D)} {olds news : List Value} {c : Array Value} {A : Nat → Prop} {w : World} (hxl : ∀ e, e ∈ xs → e.length = sz) (hyl : ∀ e, e ∈ ys → e.length = sz) (hnl : news.length = ys.length * sz)
    (h1 : ∀ (i j : Nat) e d u, xs[i]? = some e → e[j]? = some d → c[i * sz + j]? = some u → Rc A w d u)
    (h2 : ∀ k, k < ys.length * sz → c[xs.length * sz + k]? = news[k]?) (h3 : ∀ (i j : Nat) e d u, ys[i]? = some e → e[j]? = some d → news[i * sz + j]? = some u → Rc A w d u) :
    ∀ (i j : Nat) e d u, (xs ++ ys)[i]? = some e → e[j]? = some d → c[i * sz + j]? = some u → Rc A w d u := by
  intro i j e d u he hd hu
  by_cases hi : i < xs.length
  · rw [List.getElem?_append_left hi] at he
    exact h1 i j e d u he hd hu
  · rw [List.getElem?_append_right (by omega)] at he
    have hiy : i - xs.length < ys.length := by
      rcases Nat.lt_or_ge (i - xs.length) ys.length with h | h
      · exact h
      · simp [List.getElem?_eq_none h] at he
    have hj : j < sz := by
      have := hyl e (List.mem_of_getElem? he)
      rcases Nat.lt_or_ge j e.length with h | h
      · omega
      · simp [List.getElem?_eq_none h] at hd
    have hlt : (i - xs.length) * sz + j < ys.length * sz := by
      have : (i - xs.length) * sz + sz ≤ ys.length * sz := by rw [← Nat.succ_mul]; exact Nat.mul_le_mul_right _ hiy
      omega
    have hix : i * sz + j = xs.length * sz + ((i - xs.length) * sz + j) := by
      rw [← Nat.add_assoc, ← Nat.add_mul]; congr 2; omega
    rw [hix, h2 _ hlt] at hu
    exact h3 _ j e d u he hd hu

theorem append_ok {P : Program} {F : Fr} {g M w nx} (hM : MemOk F g M w) {t t2 ty : TypeId} {s x : D} {u v : Value} {fid : Nat} (hs : Tv g (Ok F g M w) w s u) (hx : Tv g (Ok F g M w) w x v)
    (h : semAppend P F.np t t2 s x M fid nx) : ∃ v' w', (Builtin.append_ #[t, t2] ty #[u, v]).run P w = .ok v' w' ∧ SR F g M w nx v' w' := by
  obtain ⟨ht2, h⟩ := h
  split at h
  · rename_i e he
    split at h
    · rename_i sz by' zs szx ys hsz hby hz hrows
      obtain ⟨hzl, hpos, hf, hszx, h⟩ := h
      obtain ⟨i, z, hi, hz', hzs⟩ := zc_spec hz
      have hisz : i.size = sz := by simpa [szT, hi] using hsz
      have hiby : i.bytes = by' := by simpa [byT, hi] using hby
      have hzsz : z.cells.size = sz := by rw [← hzl, hzs]; simp
      obtain ⟨news, hsrc, hyl, hnews⟩ := src_ok hM ht2 hx hpos hrows hszx
      have hnl := hsrc.newsLen
      subst hisz
      -- the arm that grows: a new block
      have grow : ∀ {g1 M1} (xs : List (List D)) (olds : List Value) (a : Option Addr) (c : Nat) (id? : Nat), MemOk F g1 M1 w → Le g (Ok F g M w) w g1 (Ok F g1 M1 w) w → M1 fid = none → (∀ e, e ∈ xs → e.length = i.size) → olds.length = xs.length * i.size →
          (∀ (i' j : Nat) e d u, xs[i']? = some e → e[j]? = some d → olds[i' * i.size + j]? = some u → Rc (Ok F g1 M1 w) w d u) →
          (Builtin.firstCells i.size xs.length (.slice a xs.length c)).run P w.drew = .ok olds.toArray w.drew → c < xs.length + ys.length → (xs.length + ys.length) * by' ≤ 140737488355328 → xs.length + ys.length ≤ 4611686018427387904 →
          nx (.row fid) (upd M1 fid (some (.row i.size (xs ++ ys) true))) →
          ∃ v' w', (Builtin.append_ #[t, t2] ty #[.slice a xs.length c, v]).run P w = .ok v' w' ∧ SR F g M w nx v' w' := by
        intro g1 M1 xs olds a c _ h1 hL hf1 hxl hol hor hold hlt hb h62 hn
        have hg := run_append_grow_src (P := P) w t t2 ty e i z (elT_spec he) hi hz' a xs.length c olds hold v ys.length news hsrc hlt (by omega) (growslice_fits hlt (by rw [hiby]; exact hb))
        refine ⟨_, _, hg, ?_⟩
        have hge := grownCap_ge w (xs.length + ys.length) c e
        obtain ⟨d1, d2⟩ := h1.same (w' := w.drew) rfl rfl rfl rfl
        have hzc : (Builtin.zeroCells z.cells (grownCap w (xs.length + ys.length) c e - (xs.length + ys.length))).size = (grownCap w (xs.length + ys.length) c e - (xs.length + ys.length)) * i.size := by simp [Builtin.zeroCells, hzsz]
        have hlen : (xs ++ ys).length = xs.length + ys.length := by simp
        have hsize : ((olds ++ news).toArray ++ Builtin.zeroCells z.cells (grownCap w (xs.length + ys.length) c e - (xs.length + ys.length))).size = grownCap w (xs.length + ys.length) c e * i.size := by
          rw [Array.size_append, hzc]
          simp only [List.size_toArray, List.length_append, hol, hnl]
          rw [← Nat.add_mul, ← Nat.add_mul]; congr 1; omega
        have := new_row d1 hf1 ((olds ++ news).toArray ++ Builtin.zeroCells z.cells (grownCap w (xs.length + ys.length) c e - (xs.length + ys.length))) e i.size (grownCap w (xs.length + ys.length) c e * i.size) (xs ++ ys)
          (by rw [hsize]; exact Nat.le_refl _) (by rw [hlen]; exact Nat.mul_le_mul_right _ hge)
          (fun e he => by rcases List.mem_append.1 he with h | h; exact hxl e h; exact hyl e h)
          (fun i' j ee d u he hd hu => by
            refine Rc.mono (cells_append (A := Ok F g1 M1 w) (w := w) (olds := olds) (c := (olds ++ news).toArray ++ Builtin.zeroCells z.cells (grownCap w (xs.length + ys.length) c e - (xs.length + ys.length))) hxl hyl hnl (fun i' j e d u he hd hu => ?_) (fun k hk => ?_) (fun i' j e d u he hd hu => (hnews i' j e d u he hd hu).mono hL.A) i' j ee d u he hd hu) d2.A
            · have hi' : i' < xs.length := by
                rcases Nat.lt_or_ge i' xs.length with h | h
                · exact h
                · simp [List.getElem?_eq_none h] at he
              have hj : j < i.size := by
                have := hxl e (List.mem_of_getElem? he)
                rcases Nat.lt_or_ge j e.length with h | h
                · omega
                · simp [List.getElem?_eq_none h] at hd
              have hlt' : i' * i.size + j < xs.length * i.size := by
                have : i' * i.size + i.size ≤ xs.length * i.size := by rw [← Nat.succ_mul]; exact Nat.mul_le_mul_right _ hi'
                omega
              rw [Array.getElem?_append_left (by simp; omega)] at hu
              simp only [List.getElem?_toArray] at hu
              rw [List.getElem?_append_left (by omega)] at hu
              exact hor i' j e d u he hd hu
            · rw [Array.getElem?_append_left (by simp; omega)]
              simp only [List.getElem?_toArray]
              rw [List.getElem?_append_right (by omega)]
              congr 1; omega)
          (grownCap w (xs.length + ys.length) c e) (by rw [hlen]; exact hge) (Nat.le_refl _) nx hn
        rw [hlen] at this
        exact SR.then d1 (hL.trans d2) this
      split at h
      · -- nil
        obtain ⟨hb, h62, hn⟩ := h
        cases hs.cell rfl with
        | c _ _ hr => cases hr with
          | nils =>
            by_cases hy : ys = []
            · subst hy
              have hne : news = [] := by simpa using hnl
              subst hne
              refine ⟨_, _, run_append_nothing w t t2 ty e i (elT_spec he) hi none 0 0 (Nat.le_refl _) v (by simpa using hsrc), ?_⟩
              obtain ⟨k1, k2⟩ := hM.addNil hf i.size
              exact ⟨_, _, _, hn, k1, k2, .c _ _ (.row fid ⟨0, 0, i.size, 0, false⟩ none 0 (by simp) (by simp) (by simp) (.inl rfl))⟩
            · have hpos' : 0 < ys.length := List.length_pos_iff.2 hy
              exact grow [] [] none 0 0 hM (Le.refl _ _ _) hf (by simp) (by simp) (by simp) (run_firstCells_none w.drew i.size 0 0 0) (by simpa using hpos') (by simpa using hb) (by simpa using h62) (by simpa using hn)
      · rename_i id
        split at h
        · rename_i sz' xs hm
          obtain ⟨rfl, hnp, hb, h62, hn⟩ := h
          cases hs.cell rfl with
          | c _ _ hr => cases hr
          | row _ gi a c hg hlc hcc ha =>
            obtain ⟨gi', hg', hE⟩ := hM.ent id _ hm
            rw [hg] at hg'; cases hg'
            obtain ⟨h0, hl, h2, h3, hzz, hA⟩ := hE
            obtain ⟨kM, kL⟩ := hM.kill hm
            have hfid : fid ≠ id := fun hh => by subst hh; simp [hf] at hm
            have hf' : upd M id (some Ent.dead) fid = none := by simp [upd, hfid, hf]
            rw [hl] at hlc ⊢
            by_cases hroom : xs.length + ys.length ≤ c
            · by_cases hy : ys = []
              · subst hy
                have hne : news = [] := by simpa using hnl
                subst hne
                refine ⟨_, _, run_append_nothing w t t2 ty e i (elT_spec he) hi a xs.length c hlc v (by simpa using hsrc), ?_⟩
                simp only [List.append_nil] at hn
                cases hlv : gi.live with
                | false =>
                  obtain ⟨hx0, hc0⟩ := hzz hlv
                  subst hx0
                  obtain ⟨k1, k2⟩ := kM.addNil hf' i.size
                  have hc00 : c = 0 := by
                    rcases Nat.eq_zero_or_pos c with h | h
                    · exact h
                    · have : 0 < c * gi.sz := Nat.mul_pos h (by omega)
                      omega
                  subst hc00
                  exact ⟨_, _, _, hn, k1, kL.trans k2, .c _ _ (.row fid ⟨0, 0, i.size, 0, false⟩ a 0 (by simp) (by simp) (by simp) (.inl rfl))⟩
                | true =>
                  obtain ⟨_, cc, T, h4, h5, h6⟩ := hA hlv
                  obtain ⟨k1, k2⟩ := hM.move (e' := .row i.size xs true) (gi' := gi) (w' := w) hm rfl hg hlv hnp hf rfl (fun _ _ => rfl) rfl rfl rfl rfl (fun hL => ⟨h0, hl, h2, h3, hzz, fun _ => ⟨fun h => by simp at h, cc, T, h4, h5, fun i' j e d u a b k => (h6 i' j e d u a b k).mono hL.A⟩⟩)
                  refine ⟨_, _, _, hn, k1, k2, .c _ _ ?_⟩
                  have := Tc.row (g := upd g fid (some gi)) (A := Ok F (upd g fid (some gi)) (upd (upd M id (some .dead)) fid (some (.row i.size xs true))) w) (w := w) fid gi a c (by simp) (by omega) hcc ha
                  rw [hl] at this; exact this
              · have hpos' : 0 < ys.length := List.length_pos_iff.2 hy
                have ha' := ha.resolve_left (by omega)
                subst ha'
                have hlv : gi.live = true := by
                  cases hlv : gi.live with
                  | true => rfl
                  | false =>
                    have hc0 := (hzz hlv).2
                    have : 0 < c * gi.sz := Nat.mul_pos (by omega) (by omega)
                    omega
                obtain ⟨_, cc, T, h4, h5, h6⟩ := hA hlv
                have hfit : xs.length * i.size + news.length ≤ cc.size := by
                  rw [hnl, ← Nat.add_mul]
                  have : (xs.length + ys.length) * i.size ≤ c * i.size := Nat.mul_le_mul_right _ hroom
                  rw [h0] at hcc; omega
                have hrun := run_append_room_src (P := P) w t t2 ty e i (elT_spec he) hi gi.blk 0 xs.length c v ys.length news hsrc hroom
                  (fun j hj => by rw [cell_of_row w _ _ cc T (0, 0) h4]; simp; omega) (fun j hj => by simp [World.frozen?, h4])
                simp only [Nat.zero_add] at hrun
                rw [setCells_eq_setRow (P := P) h4 hfit hsrc.one] at hrun
                refine ⟨_, _, hrun, ?_⟩
                obtain ⟨k1, k2⟩ := hM.move (e' := .row i.size (xs ++ ys) true) (gi' := { gi with len := xs.length + ys.length }) (w' := w.setRow gi.blk (cc.toList.take (xs.length * i.size) ++ news ++ cc.toList.drop (xs.length * i.size + news.length)).toArray)
                  hm rfl hg hlv hnp hf rfl (fun b hb => setRow_other w _ _ _ hb) (by simp) rfl rfl rfl (fun hL => by
                    refine ⟨h0, by simp, fun e he => by rcases List.mem_append.1 he with h | h; exact h2 e h; exact hyl e h, ?_, fun h => by simp [hlv] at h, fun _ => ⟨fun h => by simp at h, _, T, setRow_heap w _ cc _ T (0, 0) h4, ?_, ?_⟩⟩
                    · simp only [List.length_append]
                      have : (xs.length + ys.length) * i.size ≤ c * i.size := Nat.mul_le_mul_right _ hroom
                      rw [h0] at hcc; omega
                    · simp only [List.size_toArray, List.length_append, List.length_take, List.length_drop, Array.length_toList]; omega
                    · refine cells_append (olds := []) h2 hyl hnl (fun i' j e d u he hd hu => ?_) (fun k hk => ?_) (fun i' j e d u he hd hu => (hnews i' j e d u he hd hu).mono hL.A)
                      · have hi' : i' < xs.length := by
                          rcases Nat.lt_or_ge i' xs.length with h | h
                          · exact h
                          · simp [List.getElem?_eq_none h] at he
                        have hj : j < i.size := by
                          have := h2 e (List.mem_of_getElem? he)
                          rcases Nat.lt_or_ge j e.length with h | h
                          · omega
                          · simp [List.getElem?_eq_none h] at hd
                        have hlt' : i' * i.size + j < xs.length * i.size := by
                          have : i' * i.size + i.size ≤ xs.length * i.size := by rw [← Nat.succ_mul]; exact Nat.mul_le_mul_right _ hi'
                          omega
                        simp only [List.getElem?_toArray] at hu
                        rw [splice_get _ _ _ _ (by simp; omega), if_pos hlt'] at hu
                        exact (h6 i' j e d u he hd (by simpa using hu)).mono hL.A
                      · simp only [List.getElem?_toArray]
                        rw [splice_get _ _ _ _ (by simp; omega), if_neg (by omega), if_pos (by omega)]
                        congr 1; omega)
                refine ⟨_, _, _, hn, k1, k2, .c _ _ ?_⟩
                exact Tc.row fid { gi with len := xs.length + ys.length } _ c (by simp) hroom hcc (.inr rfl)
            · -- grows
              have hX : ∃ olds : List Value, olds.length = xs.length * i.size ∧ (∀ (i' j : Nat) e d u, xs[i']? = some e → e[j]? = some d → olds[i' * i.size + j]? = some u → Rc (Ok F g M w) w d u) ∧
                  (Builtin.firstCells i.size xs.length (.slice a xs.length c)).run P w.drew = .ok olds.toArray w.drew := by
                by_cases hx0 : xs = []
                · subst hx0
                  refine ⟨[], by simp, by simp, ?_⟩
                  cases a with
                  | none => exact run_firstCells_none w.drew i.size 0 0 c
                  | some a => exact run_firstCells_some w.drew i.size 0 a 0 c [] (by simp) (by simp)
                · have hlv : gi.live = true := by
                    cases hlv : gi.live with
                    | true => rfl
                    | false => exact absurd (hzz hlv).1 hx0
                  have hxp : 0 < xs.length := List.length_pos_iff.2 hx0
                  have ha' := ha.resolve_left (by omega)
                  subst ha'
                  obtain ⟨_, cc, T, h4, h5, h6⟩ := hA hlv
                  have hfit : xs.length * i.size ≤ cc.size := by omega
                  refine ⟨cc.toList.take (xs.length * i.size), by simp; omega, fun i' j e d u he hd hu => ?_, run_firstCells_some w.drew i.size xs.length ⟨gi.blk, 0, none⟩ xs.length c _ (by simp; omega) (fun j v hj => ?_)⟩
                  · rw [List.getElem?_take] at hu
                    split at hu
                    · exact h6 i' j e d u he hd (by simpa using hu)
                    · simp at hu
                  · rw [List.getElem?_take] at hj
                    split at hj
                    · rw [addp, Nat.zero_add]
                      show w.cell? _ = _
                      rw [cell_of_row w _ _ cc T (0, 0) h4]
                      simpa using hj
                    · simp at hj
              obtain ⟨olds, o1, o2, o3⟩ := hX
              exact grow xs olds a c 0 kM kL hf' h2 o1 (fun i' j e d u a b k => (o2 i' j e d u a b k).mono kL.A) o3 (by omega) hb h62 hn
        · exact h.elim
      · exact h.elim
    · exact h.elim
  · exact h.elim

end Go.Abs

/- The abstract machine, ninth part: contracts and calls. -/
set_option linter.unusedVariables false
set_option linter.unusedSimpArgs false
namespace Go.Abs
open Go

/-- A value without identities. -/
abbrev Rv (A : Nat → Prop) (w : World) (d : D) (v : Value) : Prop := Tv (fun _ => none) A w d v

theorem Tc.noId {A : Nat → Prop} {w : World} {d : D} {u : Value} (h : Tc (fun _ => none) A w d u) {g : Nat → Option GI} : Tc g A w d u := h.mono ⟨fun _ _ h => by simp at h, fun _ h => ⟨h, rfl⟩⟩
theorem Tv.noId {A : Nat → Prop} {w : World} {d : D} {u : Value} (h : Rv A w d u) {g : Nat → Option GI} : Tv g A w d u := h.mono ⟨fun _ _ h => by simp at h, fun _ h => ⟨h, rfl⟩⟩
theorem Tv.world {g : Nat → Option GI} {A A' : Nat → Prop} {w w' : World} {d : D} {u : Value} (h : Tv g A w d u) (hA : ∀ b, A b → A' b ∧ w'.heap[b]? = w.heap[b]?) : Tv g A' w' d u := h.mono ⟨fun _ _ h => h, hA⟩

/-- The arguments of a call, as the callee finds them. -/
inductive ArgsOk (A : Nat → Prop) (w : World) : List AD → List Value → List Nat → Prop
  | nil : ArgsOk A w [] [] []
  | d (x : D) (v : Value) (as : List AD) (vs : List Value) (io : List Nat) (h : Rv A w x v) (r : ArgsOk A w as vs io) : ArgsOk A w (.d x :: as) (v :: vs) io
  | io (cs : List D) (b : Nat) (c : Array Value) (T : TypeId) (as : List AD) (vs : List Value) (io : List Nat) (hb : w.heap[b]? = some (.cells c T (0, 0))) (hl : c.size = cs.length)
      (hr : ∀ (i : Nat) d u, cs[i]? = some d → c[i]? = some u → Tc (fun _ => none) A w d u) (r : ArgsOk A w as vs io) : ArgsOk A w (.io cs :: as) (.pointer (some ⟨b, 0, none⟩) :: vs) (b :: io)

def RetOne (A : Nat → Prop) (w : World) : RD → Option GI → Value → Prop
  | .d x, none, v => Rv A w x v
  | .own sz es, some gi, v => EntOk (fun _ => none) A w gi (.row sz es true) ∧ ∃ a c, v = .slice a gi.len c ∧ gi.len ≤ c ∧ c * gi.sz ≤ gi.cap ∧ (c = 0 ∨ a = some ⟨gi.blk, 0, none⟩)
  | .nbox cs, some gi, v => EntOk (fun _ => none) A w gi (.cells cs) ∧ v = .pointer (some ⟨gi.blk, 0, none⟩)
  | .omap kvs, some gi, v => EntOk (fun _ => none) A w gi (.map kvs true) ∧ v = .map (some gi.blk)
  | _, _, _ => False

/-- The blocks that nobody owns behind a call. -/
def RetA (A : Nat → Prop) (w w' : World) (gis : List (Option GI)) (b : Nat) : Prop :=
  b < w'.heap.size ∧ (b < w.heap.size → A b) ∧ ∀ gi, some gi ∈ gis → gi.live = true → gi.blk ≠ b

/-- What a call has brought. -/
structure RetOk (A : Nat → Prop) (w : World) (io : List Nat) (r : Res) (v : Value) (w' : World) : Prop where
  size : w.heap.size ≤ w'.heap.size
  old : ∀ b, b < w.heap.size → b ∉ io → w'.heap[b]? = w.heap[b]?
  os : w'.os = w.os
  tape : w'.tape = w.tape
  output : w'.output = w.output
  dr : w.drawn ≤ w'.drawn
  ret : ∃ (gis : List (Option GI)) (vs : List Value), v = (if vs.length = 1 then vs.getD 0 undef else .tuple vs.toArray) ∧ vs.length = r.ret.length ∧ gis.length = r.ret.length ∧
    (∀ (i : Nat) rd gi u, r.ret[i]? = some rd → gis[i]? = some gi → vs[i]? = some u → RetOne (RetA A w w' gis) w' rd gi u) ∧
    (∀ gi, some gi ∈ gis → gi.live = true → w.heap.size ≤ gi.blk ∧ gi.blk < w'.heap.size) ∧
    (∀ (i j : Nat) gi gj, i ≠ j → gis[i]? = some (some gi) → gis[j]? = some (some gj) → gi.live = true → gj.live = true → gi.blk ≠ gj.blk) ∧
    r.io.length = io.length ∧ ∀ (i : Nat) b cs, io[i]? = some b → r.io[i]? = some cs → ∃ c T, w'.heap[b]? = some (.cells c T (0, 0)) ∧ c.size = cs.length ∧ ∀ (i : Nat) d u, cs[i]? = some d → c[i]? = some u → Tc (fun _ => none) (RetA A w w' gis) w' d u

/-- Nothing of memory in it. -/
def plainC : D → Bool
  | .v _ | .nils => true
  | _ => false
def plainD : D → Bool
  | .agg cs => cs.all plainC
  | d => plainC d
def plainRD : RD → Bool
  | .d x => plainD x
  | .own _ es => es.all fun e => e.all plainC
  | .nbox cs => cs.all plainC
  | .omap kvs => kvs.all fun kv => plainD kv.1 && plainD kv.2

/-- A contract that the program keeps. -/
structure CallOk (P : Program) (f : FuncId) (c : Con) : Prop where
  fn : ∃ fn, P.funcs[f]? = some fn ∧ fn.body.isNone = false ∧ (fn.name == "runtime.NumGoroutine") = false
  clean : c.clean = true → ∀ a r, c.pre a → c.post a r → r.ret.all plainRD = true
  calls : ∀ (a : c.α), c.pre a → ∀ (w : World) (A : Nat → Prop) (io : List Nat) (vs : List Value), ArgsOk A w (c.args a) vs io → io.Nodup → (∀ b, b ∈ io → b < w.heap.size ∧ ¬ A b) → (∀ b, A b → b < w.heap.size) →
    Calls P f vs.toArray w fun e w' => ∃ v r, e = .returned v ∧ c.post a r ∧ RetOk A w io r v w'

theorem Rc.plain {A A' : Nat → Prop} {w w' : World} {d : D} {u : Value} (h : Rc A w d u) (hp : plainC d = true) : Rc A' w' d u := by
  cases h with
  | v x h => exact .v _ h
  | nils => exact .nils
  | _ => simp [plainC] at hp
theorem Tc.plain {g g' : Nat → Option GI} {A A' : Nat → Prop} {w w' : World} {d : D} {u : Value} (h : Tc g A w d u) (hp : plainC d = true) : Tc g' A' w' d u := by
  cases h with
  | c _ _ h => exact .c _ _ (h.plain hp)
  | _ => simp [plainC] at hp
theorem Tv.plain {g g' : Nat → Option GI} {A A' : Nat → Prop} {w w' : World} {d : D} {u : Value} (h : Tv g A w d u) (hp : plainD d = true) : Tv g' A' w' d u := by
  cases h with
  | c _ _ h =>
    refine .c _ _ (h.plain ?_)
    cases d <;> simp_all [plainD]
    cases h with | c _ _ h => cases h
  | agg cs us hl hr =>
    refine .agg cs us hl fun i d u hd hu => (hr i d u hd hu).plain ?_
    simp only [plainD, List.all_eq_true] at hp
    exact hp d (List.mem_of_getElem? hd)
  | tup => simp [plainD, plainC] at hp
  | junk => simp [plainD, plainC] at hp

theorem RetOne.plain {A A' : Nat → Prop} {w : World} {rd : RD} {gi : Option GI} {v : Value} (h : RetOne A w rd gi v) (hp : plainRD rd = true) : RetOne A' w rd gi v := by
  cases rd with
  | d x =>
    cases gi with
    | none => exact Tv.plain h hp
    | some gi => exact h.elim
  | own sz es =>
    cases gi with
    | none => exact h.elim
    | some gi =>
      obtain ⟨⟨h0, h1, h2, h3, h4, h5⟩, hv⟩ := h
      refine ⟨⟨h0, h1, h2, h3, h4, fun hl => ?_⟩, hv⟩
      obtain ⟨_, c, T, k1, k2, k3⟩ := h5 hl
      refine ⟨fun h => by simp at h, c, T, k1, k2, fun i j e d u he hd hu => (k3 i j e d u he hd hu).plain ?_⟩
      simp only [plainRD, List.all_eq_true] at hp
      exact hp e (List.mem_of_getElem? he) d (List.mem_of_getElem? hd)
  | omap kvs =>
    cases gi with
    | none => exact h.elim
    | some gi =>
      obtain ⟨⟨hl, _, es, k1, k2, k3⟩, hv⟩ := h
      refine ⟨⟨hl, fun h => by simp at h, es, k1, k2, k3.1, fun i kv e a b => ?_⟩, hv⟩
      simp only [plainRD, List.all_eq_true, Bool.and_eq_true] at hp
      have := hp kv (List.mem_of_getElem? a)
      exact ⟨(k3.2 i kv e a b).1.plain this.1, (k3.2 i kv e a b).2.plain this.2⟩
  | nbox cs =>
    cases gi with
    | none => exact h.elim
    | some gi =>
      obtain ⟨⟨hl, c, T, k1, k2, k3⟩, hv⟩ := h
      refine ⟨⟨hl, c, T, k1, k2, fun i d u hd hu => (k3 i d u hd hu).plain ?_⟩, hv⟩
      simp only [plainRD, List.all_eq_true] at hp
      exact hp d (List.mem_of_getElem? hd)

/-! ## A call, in the caller -/
def rdE : RD → Option Ent
  | .d _ => none
  | .own sz es => some (.row sz es true)
  | .nbox cs => some (.cells cs)
  | .omap kvs => some (.map kvs true)

theorem retM_get : ∀ (rs : List RD) (fid : Nat) (M : Mem) (id : Nat), retM fid M rs id = match (if fid ≤ id then rs[id - fid]? else none) with
    | some rd => (match rdE rd with | some e => some e | none => M id)
    | none => M id
  | [], fid, M, id => by simp [retM]
  | rd :: rs, fid, M, id => by
    have hstep : retM fid M (rd :: rs) = retM (fid + 1) (match rdE rd with | some e => upd M fid (some e) | none => M) rs := by cases rd <;> rfl
    rw [hstep, retM_get rs (fid + 1)]
    by_cases h1 : fid + 1 ≤ id
    · have h2 : fid ≤ id := by omega
      rw [if_pos h1, if_pos h2]
      have e : id - fid = (id - (fid + 1)) + 1 := by omega
      rw [e, List.getElem?_cons_succ]
      have hu : (match rdE rd with | some e => upd M fid (some e) | none => M) id = M id := by
        cases rdE rd with
        | none => rfl
        | some e => exact upd_ne _ _ (by omega)
      rw [hu]
    · rw [if_neg h1]
      by_cases h3 : id = fid
      · subst h3
        simp only [Nat.le_refl, if_true, Nat.sub_self, List.getElem?_cons_zero]
        cases rdE rd <;> simp
      · rw [if_neg (by omega)]
        simp only
        cases rdE rd with
        | none => rfl
        | some e => exact upd_ne _ _ h3

def retG (fid : Nat) (g : Nat → Option GI) (gis : List (Option GI)) : Nat → Option GI := fun id =>
  match (if fid ≤ id then gis[id - fid]? else none) with
  | some (some gi) => some gi
  | _ => g id

theorem retD_get : ∀ (rs : List RD) (fid i : Nat), (retD fid rs)[i]? = (rs[i]?).map fun rd => match rd with | .d x => x | .own _ _ => .row (fid + i) | .nbox _ => .box (fid + i) 0 | .omap _ => .mp (fid + i)
  | [], _, _ => by simp [retD]
  | rd :: rs, fid, i => by
    have hstep : retD fid (rd :: rs) = (match rd with | .d x => x | .own _ _ => .row fid | .nbox _ => .box fid 0 | .omap _ => .mp fid) :: retD (fid + 1) rs := by cases rd <;> rfl
    rw [hstep]
    cases i with
    | zero => simp
    | succ i =>
      simp only [List.getElem?_cons_succ, retD_get rs (fid + 1) i]
      congr 1; funext rd; cases rd <;> first | rfl | (simp; omega)

theorem ioM_other : ∀ (ids : List Nat) (css : List (List D)) (M : Mem) (id : Nat), id ∉ ids → ioM M ids css id = M id
  | [], css, M, id, _ => by cases css <;> rfl
  | i :: ids, [], M, id, _ => rfl
  | i :: ids, cs :: css, M, id, h => by
    simp only [ioM]
    rw [ioM_other ids css _ id (fun hh => h (List.mem_cons_of_mem _ hh)), upd_ne _ _ (fun hh => h (by rw [hh]; exact List.mem_cons_self))]
theorem ioM_at : ∀ (ids : List Nat) (css : List (List D)) (M : Mem) (k id : Nat) (cs : List D), ids.Nodup → ids[k]? = some id → css[k]? = some cs → ioM M ids css id = some (.cells cs)
  | [], _, _, _, _, _, _, h, _ => by simp at h
  | _ :: _, [], _, _, _, _, _, _, h => by simp at h
  | i :: ids, c :: css, M, k, id, cs, hn, h1, h2 => by
    simp only [ioM]
    rw [List.nodup_cons] at hn
    cases k with
    | zero =>
      simp at h1 h2; subst h1; subst h2
      rw [ioM_other _ _ _ _ hn.1]; simp
    | succ k => exact ioM_at ids css _ k id cs hn.2 (by simpa using h1) (by simpa using h2)

/-- A call whose contract has given its results goes on in the caller. -/
theorem after_call {F : Fr} {g M w nx} (hM : MemOk F g M w) {fid : Nat} {A : Nat → Prop} {io : List Nat} {ids : List Nat} {r : Res} {v : Value} {w' : World} (hR : RetOk A w io r v w')
    (hidn : ids.Nodup) (hil : ids.length = io.length) (hids : ∀ (k : Nat) id b, ids[k]? = some id → io[k]? = some b → ∃ cs gi, M id = some (.cells cs) ∧ g id = some gi ∧ gi.blk = b)
    (hAx : (∀ b, A b → Ok F g M w b) ∨ (r.ret.all plainRD = true ∧ r.io = []))
    (hfree : ∀ j, j < r.ret.length → M (fid + j) = none)
    (hn : nx (tupD (retD fid r.ret)) (retM fid (ioM M ids r.io) r.ret)) : SR F g M w nx v w' := by
  obtain ⟨gis, vs, hv, hvl, hgl, hone, hblk, hdis, hiol, hio⟩ := hR.ret
  -- what a new identity holds
  have hnew : ∀ id, (∃ rd gi, fid ≤ id ∧ r.ret[id - fid]? = some rd ∧ gis[id - fid]? = some (some gi) ∧ rdE rd = (some <| match rd with | .d _ => .dead | .own sz es => .row sz es true | .nbox cs => .cells cs | .omap kvs => .map kvs true) ∧ retG fid g gis id = some gi ∧
      retM fid (ioM M ids r.io) r.ret id = rdE rd ∧ M id = none ∧ g id = none) ∨ (retG fid g gis id = g id ∧ retM fid (ioM M ids r.io) r.ret id = ioM M ids r.io id) := by
    intro id
    by_cases h1 : fid ≤ id
    · cases hrd : r.ret[id - fid]? with
      | none =>
        right
        have : gis[id - fid]? = none := by rw [List.getElem?_eq_none_iff] at hrd ⊢; omega
        simp [retG, h1, this, retM_get, hrd]
      | some rd =>
        have hlt : id - fid < r.ret.length := by
          rcases Nat.lt_or_ge (id - fid) r.ret.length with h | h
          · exact h
          · simp [List.getElem?_eq_none h] at hrd
        have hMn : M id = none := by have := hfree _ hlt; rwa [show fid + (id - fid) = id from by omega] at this
        have hgi : gis[id - fid]? = some gis[id - fid] := List.getElem?_eq_getElem (by omega)
        have hvv : vs[id - fid]? = some vs[id - fid] := List.getElem?_eq_getElem (by omega)
        have h1' := hone _ rd _ _ hrd hgi hvv
        cases hq : gis[id - fid] with
        | none =>
          rw [hq] at h1' hgi
          right
          cases rd with
          | d x => simp [retG, h1, hgi, retM_get, hrd, rdE]
          | _ => exact h1'.elim
        | some gi =>
          rw [hq] at h1' hgi
          left
          refine ⟨rd, gi, h1, rfl, hgi, ?_, ?_, ?_, hMn, hM.gnone hMn⟩
          · cases rd with
            | d x => exact h1'.elim
            | _ => rfl
          · simp [retG, h1, hgi]
          · rw [retM_get]; simp only [h1, if_true, hrd]
            cases rd with
            | d x => exact h1'.elim
            | _ => rfl
    · right; simp [retG, h1, retM_get]
  have hioid : ∀ (k : Nat) id, ids[k]? = some id → ∃ b cs0 cs gi, io[k]? = some b ∧ M id = some (.cells cs0) ∧ g id = some gi ∧ gi.blk = b ∧ gi.live = true ∧ r.io[k]? = some cs ∧ ioM M ids r.io id = some (.cells cs) := by
    intro k id hk
    have hlt : k < ids.length := by
      rcases Nat.lt_or_ge k ids.length with h | h
      · exact h
      · simp [List.getElem?_eq_none h] at hk
    have hb : io[k]? = some io[k] := List.getElem?_eq_getElem (by omega)
    have hc : r.io[k]? = some r.io[k] := List.getElem?_eq_getElem (by omega)
    obtain ⟨cs0, gi, h1, h2, h3⟩ := hids k id _ hk hb
    obtain ⟨gi', hg', hE⟩ := hM.ent id _ h1
    rw [h2] at hg'; cases hg'
    exact ⟨_, cs0, _, gi, hb, h1, h2, h3, hE.1, hc, ioM_at ids r.io M k id _ hidn hk hc⟩
  have hioB : ∀ b, b ∈ io → ∃ id cs0 gi, M id = some (.cells cs0) ∧ g id = some gi ∧ gi.blk = b ∧ gi.live = true ∧ id ∈ ids := by
    intro b hb
    obtain ⟨k, hk⟩ := List.getElem?_of_mem hb
    have hlt : k < io.length := by
      rcases Nat.lt_or_ge k io.length with h | h
      · exact h
      · simp [List.getElem?_eq_none h] at hk
    have hki : ids[k]? = some ids[k] := List.getElem?_eq_getElem (by omega)
    obtain ⟨b', cs0, cs, gi, h1, h2, h3, h4, h5, _⟩ := hioid k _ hki
    rw [hk] at h1; cases h1
    exact ⟨_, cs0, gi, h2, h3, h4, h5, List.getElem_mem _⟩
  have hfin : MemOk F (retG fid g gis) (retM fid (ioM M ids r.io) r.ret) w' ∧ Le g (Ok F g M w) w (retG fid g gis) (Ok F (retG fid g gis) (retM fid (ioM M ids r.io) r.ret) w') w' := by
    have hdr := hR.dr
    refine hM.step (fun b => b ∈ io ∨ w.heap.size ≤ b) (fun id gi hg => ?_) (fun id gi hg => ?_) (fun b hb hnb => hR.old b hb (fun h => hnb (.inl h))) (fun b hb hW => ?_) (fun b hW hlt => ?_) hR.size hR.os hR.tape hR.output (fun hL id e hm => ?_) (fun id e gi hm hx hg hlv => ?_) (fun i j ei ej gi gj hij hi hj hxi hxj hgi hgj hlvi hlvj => ?_)
    · rcases hnew id with ⟨_, _, _, _, _, _, _, _, _, hgn⟩ | ⟨h1, _⟩
      · rw [hg] at hgn; cases hgn
      · rw [h1]; exact hg
    · rcases hnew id with ⟨rd, gi', h1, h2, h3, h4, h5, h6, _, _⟩ | ⟨h1, h2⟩
      · rw [h4] at h6; exact ⟨_, h6⟩
      · rw [h1] at hg
        obtain ⟨e, he⟩ := hM.dom id gi hg
        rw [h2]
        by_cases hid : id ∈ ids
        · obtain ⟨k, hk⟩ := List.getElem?_of_mem hid
          obtain ⟨_, _, cs, _, _, _, _, _, _, _, h⟩ := hioid k id hk
          exact ⟨_, h⟩
        · rw [ioM_other _ _ _ _ hid]; exact ⟨e, he⟩
    · rcases hW with h | h
      · obtain ⟨id, cs0, gi, h1, h2, h3, h4, _⟩ := hioB b h
        exact hb.2.2 id _ gi h1 rfl h2 h4 h3
      · have := hb.1; omega
    · rcases hW with h | h
      · obtain ⟨id, cs0, gi, h1, h2, h3, h4, _⟩ := hioB b h
        rw [← h3] at hlt ⊢
        exact (hM.lo id _ gi h1 rfl h2 h4).2 hlt
      · have := hM.size; omega
    · -- the entries
      have hRA : ∀ b, RetA A w w' gis b → (b < w.heap.size → Ok F g M w b) → Ok F (retG fid g gis) (retM fid (ioM M ids r.io) r.ret) w' b := by
        intro b hb hb'
        refine ⟨hb.1, fun hlt => ?_, fun id e gi hm hx hg hlv hbe => ?_⟩
        · have h1 : b < w.heap.size := Nat.lt_of_lt_of_le hlt hM.size
          exact (hb' h1).2.1 hlt
        · rcases hnew id with ⟨rd, gi', h1, h2, h3, h4, h5, h6, _, _⟩ | ⟨h1, h2⟩
          · rw [hg] at h5; cases h5
            exact hb.2.2 gi (List.mem_of_getElem? h3) hlv hbe
          · rw [h1] at hg; rw [h2] at hm
            by_cases hid : id ∈ ids
            · obtain ⟨k, hk⟩ := List.getElem?_of_mem hid
              obtain ⟨b', cs0, cs, gi', q1, q2, q3, q4, q5, q6, q7⟩ := hioid k id hk
              rw [hg] at q3; cases q3
              have h1 : b < w.heap.size := by rw [← hbe]; exact (hM.lo id _ gi q2 rfl hg hlv).1
              exact (hb' h1).2.2 id _ gi q2 rfl hg hlv hbe
            · rw [ioM_other _ _ _ _ hid] at hm
              have h1 : b < w.heap.size := by rw [← hbe]; exact (hM.lo id _ gi hm hx hg hlv).1
              exact (hb' h1).2.2 id e gi hm hx hg hlv hbe
      rcases hnew id with ⟨rd, gi', h1, h2, h3, h4, h5, h6, _, _⟩ | ⟨h1, h2⟩
      · right
        refine ⟨gi', h5, ?_⟩
        rw [h6, h4] at hm
        obtain ⟨u, hvv⟩ : ∃ u, vs[id - fid]? = some u := ⟨vs[id - fid]'(by
          rcases Nat.lt_or_ge (id - fid) vs.length with h | h
          · exact h
          · have : r.ret[id - fid]? = none := List.getElem?_eq_none (by omega)
            rw [h2] at this; cases this), List.getElem?_eq_getElem _⟩
        have hO := hone _ rd _ _ h2 h3 hvv
        have hO' : RetOne (Ok F (retG fid g gis) (retM fid (ioM M ids r.io) r.ret) w') w' rd (some gi') u := by
          rcases hAx with hA | ⟨hp, _⟩
          · cases rd with
            | d x => exact hO.elim
            | own sz es =>
              refine ⟨hO.1.keep ⟨fun _ _ h => h, fun b hb => ⟨hRA b hb (fun h => hA b (hb.2.1 h)), rfl⟩⟩ (fun _ _ => rfl), hO.2⟩
            | omap kvs => exact ⟨hO.1.keep ⟨fun _ _ h => h, fun b hb => ⟨hRA b hb (fun h => hA b (hb.2.1 h)), rfl⟩⟩ (fun _ _ => rfl), hO.2⟩
            | nbox cs => exact ⟨hO.1.keep ⟨fun _ _ h => h, fun b hb => ⟨hRA b hb (fun h => hA b (hb.2.1 h)), rfl⟩⟩ (fun _ _ => rfl), hO.2⟩
          · rw [List.all_eq_true] at hp
            exact hO.plain (hp rd (List.mem_of_getElem? h2))
        cases rd with
        | d x => exact hO'.elim
        | own sz es =>
          simp only [Option.some.injEq] at hm; subst hm
          exact hO'.1.keep ⟨fun _ _ h => by simp at h, fun _ h => ⟨h, rfl⟩⟩ (fun _ _ => rfl)
        | omap kvs =>
          simp only [Option.some.injEq] at hm; subst hm
          exact hO'.1.keep ⟨fun _ _ h => by simp at h, fun _ h => ⟨h, rfl⟩⟩ (fun _ _ => rfl)
        | nbox cs =>
          simp only [Option.some.injEq] at hm; subst hm
          exact hO'.1.keep ⟨fun _ _ h => by simp at h, fun _ h => ⟨h, rfl⟩⟩ (fun _ _ => rfl)
      · rw [h2] at hm
        by_cases hid : id ∈ ids
        · right
          obtain ⟨k, hk⟩ := List.getElem?_of_mem hid
          obtain ⟨b, cs0, cs, gi, q1, q2, q3, q4, q5, q6, q7⟩ := hioid k id hk
          rw [q7] at hm; cases hm
          obtain ⟨c, T, k1, k2, k3⟩ := hio k b cs q1 q6
          refine ⟨gi, by rw [h1]; exact q3, q5, c, T, by rw [q4]; exact k1, k2, fun i d u hd hu => ?_⟩
          have hA : ∀ b, A b → Ok F g M w b := by
            rcases hAx with hA | ⟨_, hz⟩
            · exact hA
            · rw [hz] at q6; simp at q6
          exact (k3 i d u hd hu).mono ⟨fun _ _ h => by simp at h, fun b hb => ⟨hRA b hb (fun h => hA b (hb.2.1 h)), rfl⟩⟩
        · left
          rw [ioM_other _ _ _ _ hid] at hm
          refine ⟨hm, fun gi hg hx hlv hW => ?_⟩
          rcases hW with h | h
          · obtain ⟨id', cs0, gi', q1, q2, q3, q4, q5⟩ := hioB _ h
            have hne : id ≠ id' := fun h => hid (h ▸ q5)
            exact hM.inj id id' e _ gi gi' hne hm q1 hx rfl hg q2 hlv q4 q3.symm
          · have := (hM.lo id e gi hm hx hg hlv).1; omega
    · rcases hnew id with ⟨rd, gi', h1, h2, h3, h4, h5, h6, hMn, hgn⟩ | ⟨h1, h2⟩
      · rw [hg] at h5; cases h5
        right
        obtain ⟨b1, b2⟩ := hblk gi (List.mem_of_getElem? h3) hlv
        refine ⟨b2, fun hlt => ?_, fun _ => ?_, fun hok => ?_⟩
        · have := hM.size; omega
        · have := hM.size; omega
        · have := hok.1; omega
      · rw [h1] at hg; rw [h2] at hm
        by_cases hid : id ∈ ids
        · right
          obtain ⟨k, hk⟩ := List.getElem?_of_mem hid
          obtain ⟨b, cs0, cs, gi', q1, q2, q3, q4, q5, q6, q7⟩ := hioid k id hk
          rw [hg] at q3; cases q3
          have hlo := hM.lo id _ gi q2 rfl hg hlv
          exact ⟨Nat.lt_of_lt_of_le hlo.1 hR.size, hlo.2, fun h => hM.hi id _ gi h q2 rfl hg hlv, fun hok => hok.2.2 id _ gi q2 rfl hg hlv rfl⟩
        · left
          rw [ioM_other _ _ _ _ hid] at hm
          exact ⟨hm, hg⟩
    · -- apart
      have key : ∀ k ek gk, retM fid (ioM M ids r.io) r.ret k = some ek → ek.ex = true → retG fid g gis k = some gk → gk.live = true →
          (fid ≤ k ∧ gis[k - fid]? = some (some gk) ∧ w.heap.size ≤ gk.blk) ∨ (∃ e0, M k = some e0 ∧ e0.ex = true ∧ g k = some gk ∧ gk.blk < w.heap.size) := by
        intro k ek gk hk hx hgk hlk
        rcases hnew k with ⟨rd, gi', h1, h2, h3, h4, h5, h6, hMn, hgn⟩ | ⟨h1, h2⟩
        · rw [hgk] at h5; cases h5
          exact .inl ⟨h1, h3, (hblk gk (List.mem_of_getElem? h3) hlk).1⟩
        · right
          rw [h1] at hgk; rw [h2] at hk
          by_cases hid : k ∈ ids
          · obtain ⟨q, hq⟩ := List.getElem?_of_mem hid
            obtain ⟨b, cs0, cs, gi', q1, q2, q3, q4, q5, q6, q7⟩ := hioid q k hq
            exact ⟨_, q2, rfl, hgk, (hM.lo k _ gk q2 rfl hgk hlk).1⟩
          · rw [ioM_other _ _ _ _ hid] at hk
            exact ⟨_, hk, hx, hgk, (hM.lo k _ gk hk hx hgk hlk).1⟩
      rcases key i ei gi hi hxi hgi hlvi with ⟨a1, a2, a3⟩ | ⟨e1, a1, a2, a3, a4⟩ <;> rcases key j ej gj hj hxj hgj hlvj with ⟨b1, b2, b3⟩ | ⟨e2, b1, b2, b3, b4⟩
      · exact hdis _ _ gi gj (by omega) a2 b2 hlvi hlvj
      · omega
      · omega
      · exact hM.inj i j e1 e2 gi gj hij a1 b1 a2 b2 a3 b3 hlvi hlvj
  refine ⟨_, _, _, hn, hfin.1, hfin.2, ?_⟩
  -- the value
  have hval : ∀ (i : Nat) d u, (retD fid r.ret)[i]? = some d → vs[i]? = some u → Tv (retG fid g gis) (Ok F (retG fid g gis) (retM fid (ioM M ids r.io) r.ret) w') w' d u := by
    intro i d u hd hu
    rw [retD_get] at hd
    cases hrd : r.ret[i]? with
    | none => rw [hrd] at hd; simp at hd
    | some rd =>
      rw [hrd] at hd
      have hlt : i < r.ret.length := by
        rcases Nat.lt_or_ge i r.ret.length with h | h
        · exact h
        · simp [List.getElem?_eq_none h] at hrd
      have hgi : gis[i]? = some gis[i] := List.getElem?_eq_getElem (by omega)
      have hO := hone i rd _ u hrd hgi hu
      have hgid : ∀ gi, gis[i]? = some (some gi) → retG fid g gis (fid + i) = some gi := by
        intro gi h
        simp [retG, h]
      cases rd with
      | d x =>
        simp at hd; subst hd
        cases hq : gis[i] with
        | some gi => rw [hq] at hO; exact hO.elim
        | none =>
          rw [hq] at hO
          have hO' : Rv (RetA A w w' gis) w' x u := hO
          rcases hAx with hA | ⟨hp, _⟩
          · refine Tv.noId (hO'.world fun b hb => ⟨?_, rfl⟩)
            refine ⟨hb.1, fun hlt => (hA b (hb.2.1 (Nat.lt_of_lt_of_le hlt hM.size))).2.1 hlt, fun id e gi hm hx hg hlv hbe => ?_⟩
            rcases hnew id with ⟨rd, gi', h1, h2, h3, h4, h5, h6, _, _⟩ | ⟨h1, h2⟩
            · rw [hg] at h5; cases h5
              exact hb.2.2 gi (List.mem_of_getElem? h3) hlv hbe
            · rw [h1] at hg; rw [h2] at hm
              have : ∃ e0, M id = some e0 ∧ e0.ex = true := by
                by_cases hid : id ∈ ids
                · obtain ⟨q, hq⟩ := List.getElem?_of_mem hid
                  obtain ⟨b', cs0, cs, gi', q1, q2, q3, q4, q5, q6, q7⟩ := hioid q id hq
                  exact ⟨_, q2, rfl⟩
                · rw [ioM_other _ _ _ _ hid] at hm
                  exact ⟨_, hm, hx⟩
              obtain ⟨e0, h3, h4⟩ := this
              have hlt' : b < w.heap.size := by rw [← hbe]; exact (hM.lo id e0 gi h3 h4 hg hlv).1
              exact (hA b (hb.2.1 hlt')).2.2 id e0 gi h3 h4 hg hlv hbe
          · rw [List.all_eq_true] at hp
            exact Tv.plain hO' (hp _ (List.mem_of_getElem? hrd))
      | own sz es =>
        simp at hd; subst hd
        cases hq : gis[i] with
        | none => rw [hq] at hO; exact hO.elim
        | some gi =>
          rw [hq] at hO hgi
          obtain ⟨_, a, c, rfl, h1, h2, h3⟩ := hO
          exact .c _ _ (.row (fid + i) gi a c (hgid gi hgi) h1 h2 h3)
      | omap kvs =>
        simp at hd; subst hd
        cases hq : gis[i] with
        | none => rw [hq] at hO; exact hO.elim
        | some gi =>
          rw [hq] at hO hgi
          obtain ⟨_, rfl⟩ := hO
          exact .c _ _ (.mp (fid + i) gi (hgid gi hgi))
      | nbox cs =>
        simp at hd; subst hd
        cases hq : gis[i] with
        | none => rw [hq] at hO; exact hO.elim
        | some gi =>
          rw [hq] at hO hgi
          obtain ⟨_, rfl⟩ := hO
          exact .c _ _ (.box (fid + i) 0 gi (hgid gi hgi))
  have hdl : (retD fid r.ret).length = r.ret.length := by
    have : ∀ (rs : List RD) (fid : Nat), (retD fid rs).length = rs.length := by
      intro rs
      induction rs with
      | nil => intro fid; rfl
      | cons rd rs ih => intro fid; cases rd <;> simp [retD, ih]
    exact this _ _
  subst hv
  by_cases h1 : vs.length = 1
  · rw [if_pos h1]
    obtain ⟨u, hu⟩ := List.length_eq_one_iff.1 h1
    have : (retD fid r.ret).length = 1 := by omega
    obtain ⟨d, hd⟩ := List.length_eq_one_iff.1 this
    rw [hd, hu]
    exact hval 0 d u (by rw [hd]; rfl) (by rw [hu]; rfl)
  · rw [if_neg h1]
    have : tupD (retD fid r.ret) = .tup (retD fid r.ret) := by
      cases hq : retD fid r.ret with
      | nil => rfl
      | cons d l =>
        cases l with
        | nil => rw [hq] at hdl; simp at hdl; omega
        | cons => rfl
    rw [this]
    exact .tup _ _ (by simp; omega) fun i d u hd hu => hval i d u hd (by simpa using hu)

end Go.Abs

/- The abstract machine, tenth part: every operation; regions; code. -/
set_option linter.unusedVariables false
set_option linter.unusedSimpArgs false
namespace Go.Abs
open Go

abbrev Kt := FuncId → Option Con

theorem argsV_ok {F : Fr} {g M w} (hM : MemOk F g M w) {A : Nat → Prop} (hA : ∀ b, Ok F g M w b → A b) (hx : ∀ b, b < w.heap.size → A b) : ∀ (ds : List D) (as : List AD) (vs : List Value),
    (mapO (fz M true 4) ds).map (·.map .d) = some as → vs.length = ds.length → (∀ (i : Nat) d u, ds[i]? = some d → vs[i]? = some u → Tv g (Ok F g M w) w d u) → ArgsOk A w as vs []
  | [], as, vs, h, hl, _ => by
    simp [mapO] at h; subst h
    cases vs with
    | nil => exact .nil
    | cons => simp at hl
  | d :: ds, as, [], h, hl, _ => by simp at hl
  | d :: ds, as, v :: vs, h, hl, hr => by
    simp only [mapO] at h
    split at h
    · rename_i y l h1 h2
      simp only [Option.map_some, List.map_cons, Option.some.injEq] at h; subst h
      refine .d y v _ vs [] ?_ (argsV_ok hM hA hx ds _ vs (by rw [h2]; rfl) (by simpa using hl) fun i d u hd hu => hr (i + 1) d u (by simpa using hd) (by simpa using hu))
      have hv := hr 0 d v rfl rfl
      cases hv with
      | c _ _ hc => exact .c _ _ (.c _ _ (fz_ok hM hA (fun _ => hx) 4 hc.isCell hc h1))
      | agg cs us hl' hr' =>
        simp only [fz] at h1
        split at h1
        · rename_i cs' hcs
          cases h1
          refine .agg _ _ (by rw [hl', mapO_length hcs]) fun i d u hd hu => ?_
          obtain ⟨x, hx1, hx2⟩ := mapO_get hcs hd
          have ht := hr' i x u hx1 hu
          exact .c _ _ (fz_ok hM hA (fun _ => hx) 3 ht.isCell ht hx2)
        · simp at h1
      | tup => simp [fz, fz0] at h1
      | junk => simp [fz, fz0] at h1
    · simp at h

theorem argsF_ok {F : Fr} {g M w} (hM : MemOk F g M w) : ∀ (ks : List Bool) (ds : List D) (as : List AD) (vs : List Value),
    argsF M ks ds = some as → vs.length = ds.length → (∀ (i : Nat) d u, ds[i]? = some d → vs[i]? = some u → Tv g (Ok F g M w) w d u) →
    ∃ io, ArgsOk (Ok F g M w) w as vs io ∧ io.length = (ioIds ks ds).length ∧ ∀ (k : Nat) id b, (ioIds ks ds)[k]? = some id → io[k]? = some b → ∃ cs gi, M id = some (.cells cs) ∧ g id = some gi ∧ gi.blk = b
  | ks, [], as, vs, h, hl, _ => by
    simp [argsF] at h; subst h
    cases vs with
    | nil => exact ⟨[], .nil, by cases ks <;> simp [ioIds], by simp⟩
    | cons => simp at hl
  | ks, d :: ds, as, [], h, hl, _ => by simp at hl
  | ks, d :: ds, as, v :: vs, h, hl, hr => by
    have hv := hr 0 d v rfl rfl
    have hr' : ∀ (i : Nat) d u, ds[i]? = some d → vs[i]? = some u → Tv g (Ok F g M w) w d u := fun i d u hd hu => hr (i + 1) d u (by simpa using hd) (by simpa using hu)
    -- by value
    have byVal : ∀ (ks' : List Bool), consAD ((fz M false 1 d).map .d) (argsF M ks' ds) = some as → ioIds ks (d :: ds) = ioIds ks' ds →
        ∃ io, ArgsOk (Ok F g M w) w as (v :: vs) io ∧ io.length = (ioIds ks (d :: ds)).length ∧ ∀ (k : Nat) id b, (ioIds ks (d :: ds))[k]? = some id → io[k]? = some b → ∃ cs gi, M id = some (.cells cs) ∧ g id = some gi ∧ gi.blk = b := by
      intro ks' h he
      unfold consAD at h
      split at h
      · rename_i q r h1' h2
        cases h
        obtain ⟨d', h1, rfl⟩ := Option.map_eq_some_iff.1 h1'
        obtain ⟨io, k1, k2, k3⟩ := argsF_ok hM ks' ds r vs h2 (by simpa using hl) hr'
        refine ⟨io, .d d' v r vs io ?_ k1, by rw [he]; exact k2, by rw [he]; exact k3⟩
        cases hv with
        | c _ _ hc => exact .c _ _ (.c _ _ (fz_ok hM (fun _ h => h) (fun h => by simp at h) 1 hc.isCell hc h1))
        | agg cs us hl' hra =>
          simp only [fz] at h1
          split at h1
          · rename_i cs' hcs
            cases h1
            refine .agg _ _ (by rw [hl', mapO_length hcs]) fun i d u hd hu => ?_
            obtain ⟨x, hx1, hx2⟩ := mapO_get hcs hd
            have ht := hra i x u hx1 hu
            exact .c _ _ (fz_ok hM (fun _ h => h) (fun h => by simp at h) 0 ht.isCell ht hx2)
          · simp at h1
        | tup => simp [fz, fz0] at h1
        | junk => simp [fz, fz0] at h1
      · simp at h
    match ks, d with
    | true :: ks', .box id 0 =>
      simp only [argsF, consAD] at h
      split at h
      · rename_i q r h1' h2
        cases h
        unfold ioArg at h1'
        split at h1'
        · rename_i cs hm
          obtain ⟨cs', h1, rfl⟩ := Option.map_eq_some_iff.1 h1'
          obtain ⟨io, k1, k2, k3⟩ := argsF_ok hM ks' ds r vs h2 (by simpa using hl) hr'
          cases hv.cell rfl with
          | c _ _ hh => cases hh
          | box _ _ gi hg =>
            obtain ⟨gi', hg', hlv, c, T, q1, q2, q3⟩ := hM.ent id _ hm
            rw [hg] at hg'; cases hg'
            refine ⟨gi.blk :: io, .io cs' gi.blk c T r vs io q1 (by rw [q2, mapO_length h1]) (fun i d u hd hu => ?_) k1, by simp [ioIds, k2], fun k id' b hk hb => ?_⟩
            · obtain ⟨x, hx1, hx2⟩ := mapO_get h1 hd
              have ht := q3 i x u hx1 hu
              exact .c _ _ (fz_ok hM (fun _ h => h) (fun h => by simp at h) 1 ht.isCell ht hx2)
            · cases k with
              | zero =>
                simp [ioIds] at hk hb
                subst hk; subst hb
                exact ⟨cs, gi, hm, hg, rfl⟩
              | succ k => exact k3 k id' b (by simpa [ioIds] using hk) (by simpa using hb)
        · simp at h1'
      · simp at h
    | [], d => exact byVal [] (by simpa [argsF] using h) (by simp [ioIds])
    | false :: ks', d => exact byVal ks' (by simpa [argsF] using h) (by simp [ioIds])
    | true :: ks', .box id (o + 1) => exact byVal ks' (by simpa [argsF] using h) (by simp [ioIds])
    | true :: ks', .v x => exact byVal ks' (by simpa [argsF] using h) (by simp [ioIds])
    | true :: ks', .agg x => exact byVal ks' (by simpa [argsF] using h) (by simp [ioIds])
    | true :: ks', .tup x => exact byVal ks' (by simpa [argsF] using h) (by simp [ioIds])
    | true :: ks', .nils => exact byVal ks' (by simpa [argsF] using h) (by simp [ioIds])
    | true :: ks', .sl _ _ => exact byVal ks' (by simpa [argsF] using h) (by simp [ioIds])
    | true :: ks', .rp _ _ _ _ => exact byVal ks' (by simpa [argsF] using h) (by simp [ioIds])
    | true :: ks', .fn _ _ _ => exact byVal ks' (by simpa [argsF] using h) (by simp [ioIds])
    | true :: ks', .row _ => exact byVal ks' (by simpa [argsF] using h) (by simp [ioIds])
    | true :: ks', .vw _ _ _ => exact byVal ks' (by simpa [argsF] using h) (by simp [ioIds])
    | true :: ks', .elt _ _ _ => exact byVal ks' (by simpa [argsF] using h) (by simp [ioIds])
    | true :: ks', .mp _ => exact byVal ks' (by simpa [argsF] using h) (by simp [ioIds])
    | true :: ks', .it _ => exact byVal ks' (by simpa [argsF] using h) (by simp [ioIds])
    | true :: ks', .junk => exact byVal ks' (by simpa [argsF] using h) (by simp [ioIds])

end Go.Abs
