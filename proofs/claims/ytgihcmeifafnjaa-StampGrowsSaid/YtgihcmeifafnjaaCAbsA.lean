/- The abstract machine, first part: data, representation, monotonicity. -/
import Derived.Calls
import Derived.Orders
import Derived.Tactics
import Derived.Below
import Derived.KernelRfl
import Derived.Maps.Range
set_option linter.unusedVariables false
set_option linter.unusedSimpArgs false
namespace Go.Abs
open Go

/-- Abstract values. The first seven have no identity: what they say of memory is never written again. -/
inductive D where
  | v (x : Value)
  | agg (cs : List D)
  | tup (ds : List D)
  | nils
  | sl (sz : Nat) (es : List (List D))
  | rp (sz : Nat) (es : List (List D)) (i off : Nat)
  | fn (f : FuncId) (first caps : List D)
  | row (id : Nat)
  | vw (id off n : Nat)
  | elt (id i off : Nat)
  | box (id off : Nat)
  | mp (id : Nat)
  | it (id : Nat)
  | junk
  deriving Inhabited

/-- What an identity holds. -/
inductive Ent where
  | cells (cs : List D)
  | row (sz : Nat) (es : List (List D)) (ex : Bool)
  | map (kvs : List (D × D)) (ex : Bool)
  | iter (left : List (D × D)) (last : Option (D × D))
  | dead
  deriving Inhabited

def flat : Value → Bool
  | .bool _ | .int _ _ | .string _ | .pointer none | .nilFunc | .nilIface | .map none => true
  | _ => false

/-- A frozen cell. -/
inductive Rc (A : Nat → Prop) (w : World) : D → Value → Prop
  | v (x : Value) (h : flat x = true) : Rc A w (.v x) x
  | nils : Rc A w .nils (.slice none 0 0)
  | sl (sz : Nat) (es : List (List D)) (a : Option Addr) (c : Nat) (X : Nat → Nat → Value) (hn : es.length ≤ c) (hsz : ∀ e, e ∈ es → e.length = sz)
      (ha : es ≠ [] → ∃ b o, a = some ⟨b, o, none⟩ ∧ A b ∧ ∀ i j, i < es.length → j < sz → w.cell? ⟨b, o + i * sz + j, none⟩ = some (X i j))
      (hr : ∀ (i j : Nat) e d, es[i]? = some e → e[j]? = some d → Rc A w d (X i j)) : Rc A w (.sl sz es) (.slice a es.length c)
  | rp (sz : Nat) (es : List (List D)) (i off b o : Nat) (X : Nat → Nat → Value) (hsz : ∀ e, e ∈ es → e.length = sz) (hi : i < es.length) (hA : A b)
      (hc : ∀ i j, i < es.length → j < sz → w.cell? ⟨b, o + i * sz + j, none⟩ = some (X i j))
      (hr : ∀ (i j : Nat) e d, es[i]? = some e → e[j]? = some d → Rc A w d (X i j)) : Rc A w (.rp sz es i off) (.pointer (some ⟨b, o + i * sz + off, none⟩))
  | fn (f : FuncId) (first caps : List D) (us vs : Array Value) (hl : vs.size = first.length) (hs : us.size = caps.length)
      (hf : ∀ (i : Nat) d u, first[i]? = some d → vs[i]? = some u → Rc A w d u)
      (hr : ∀ (i : Nat) d u, caps[i]? = some d → us[i]? = some u → Rc A w d u) : Rc A w (.fn f first caps) (.func (.func f) vs us)

theorem cell?_heap {w w' : World} {b o : Nat} {s : Option Nat} (h : w'.heap[b]? = w.heap[b]?) : w'.cell? ⟨b, o, s⟩ = w.cell? ⟨b, o, s⟩ := by
  simp only [World.cell?, h]

theorem Rc.mono {A A' : Nat → Prop} {w w' : World} {d : D} {u : Value} (h : Rc A w d u) (hA : ∀ b, A b → A' b ∧ w'.heap[b]? = w.heap[b]?) : Rc A' w' d u := by
  induction h with
  | v x h => exact .v x h
  | nils => exact .nils
  | sl sz es a c X hn hsz ha hr ih =>
    refine .sl sz es a c X hn hsz (fun hne => ?_) ih
    obtain ⟨b, o, rfl, hb, hc⟩ := ha hne
    exact ⟨b, o, rfl, (hA b hb).1, fun i j hi hj => (cell?_heap (hA b hb).2).trans (hc i j hi hj)⟩
  | rp sz es i off b o X hsz hi hb hc hr ih =>
    exact .rp sz es i off b o X hsz hi (hA b hb).1 (fun i j hi hj => (cell?_heap (hA b hb).2).trans (hc i j hi hj)) ih
  | fn f first caps us vs hl hs hf hr ihf ih => exact .fn f first caps us vs hl hs ihf ih

theorem Rc.one {A : Nat → Prop} {w : World} {d : D} {u : Value} (h : Rc A w d u) : u.oneCell' = true := by
  cases h with
  | v x h => cases u <;> simp_all [flat, Value.oneCell']
  | _ => rfl

/-- Where an identity lies: its block, how many cells it may use there, the size and the number of a row's elements. -/
structure GI where
  blk : Nat
  cap : Nat
  sz : Nat
  len : Nat
  live : Bool
  deriving Inhabited

/-- A cell, identities among it. -/
inductive Tc (g : Nat → Option GI) (A : Nat → Prop) (w : World) : D → Value → Prop
  | c (d : D) (u : Value) (h : Rc A w d u) : Tc g A w d u
  | row (id : Nat) (gi : GI) (a : Option Addr) (c : Nat) (hg : g id = some gi) (hn : gi.len ≤ c) (hc : c * gi.sz ≤ gi.cap) (ha : c = 0 ∨ a = some ⟨gi.blk, 0, none⟩) : Tc g A w (.row id) (.slice a gi.len c)
  | vw (id off n : Nat) (gi : GI) (a : Option Addr) (c : Nat) (hg : g id = some gi) (ho : off + n ≤ gi.len) (hn : n ≤ c) (ha : n = 0 ∨ a = some ⟨gi.blk, off * gi.sz, none⟩) : Tc g A w (.vw id off n) (.slice a n c)
  | elt (id i off : Nat) (gi : GI) (hg : g id = some gi) (hi : i < gi.len) : Tc g A w (.elt id i off) (.pointer (some ⟨gi.blk, i * gi.sz + off, none⟩))
  | box (id off : Nat) (gi : GI) (hg : g id = some gi) : Tc g A w (.box id off) (.pointer (some ⟨gi.blk, off, none⟩))
  | mp (id : Nat) (gi : GI) (hg : g id = some gi) : Tc g A w (.mp id) (.map (some gi.blk))
  | it (id : Nat) (gi : GI) (hg : g id = some gi) : Tc g A w (.it id) (.pointer (some ⟨gi.blk, 0, none⟩))
  | fn (f : FuncId) (first caps : List D) (us vs : Array Value) (hl : vs.size = first.length) (hs : us.size = caps.length)
      (hf : ∀ (i : Nat) d u, first[i]? = some d → vs[i]? = some u → Tc g A w d u)
      (hr : ∀ (i : Nat) d u, caps[i]? = some d → us[i]? = some u → Tc g A w d u) : Tc g A w (.fn f first caps) (.func (.func f) vs us)

/-- A value: a cell, an aggregate of cells, a tuple; of junk nothing is said. -/
inductive Tv (g : Nat → Option GI) (A : Nat → Prop) (w : World) : D → Value → Prop
  | c (d : D) (u : Value) (h : Tc g A w d u) : Tv g A w d u
  | agg (cs : List D) (us : Array Value) (hl : us.size = cs.length) (hr : ∀ (i : Nat) d u, cs[i]? = some d → us[i]? = some u → Tc g A w d u) : Tv g A w (.agg cs) (.agg us)
  | tup (ds : List D) (us : Array Value) (hl : us.size = ds.length) (hr : ∀ (i : Nat) d u, ds[i]? = some d → us[i]? = some u → Tv g A w d u) : Tv g A w (.tup ds) (.tuple us)
  | junk (u : Value) : Tv g A w .junk u

/-- From one state of memory to another one: what was known is known. -/
structure Le (g : Nat → Option GI) (A : Nat → Prop) (w : World) (g' : Nat → Option GI) (A' : Nat → Prop) (w' : World) : Prop where
  g : ∀ id gi, g id = some gi → g' id = some gi
  A : ∀ b, A b → A' b ∧ w'.heap[b]? = w.heap[b]?

theorem Le.refl (g A w) : Le g A w g A w := ⟨fun _ _ h => h, fun _ h => ⟨h, rfl⟩⟩
theorem Le.trans {g A w g1 A1 w1 g2 A2 w2} (h : Le g A w g1 A1 w1) (k : Le g1 A1 w1 g2 A2 w2) : Le g A w g2 A2 w2 :=
  ⟨fun id gi hh => k.g id gi (h.g id gi hh), fun b hb => ⟨(k.A b (h.A b hb).1).1, (k.A b (h.A b hb).1).2.trans (h.A b hb).2⟩⟩

theorem Tc.mono {g A w g' A' w'} {d : D} {u : Value} (h : Tc g A w d u) (hL : Le g A w g' A' w') : Tc g' A' w' d u := by
  induction h with
  | c d u h => exact .c d u (h.mono hL.A)
  | row id gi a c hg hn hc ha => exact .row id gi a c (hL.g _ _ hg) hn hc ha
  | vw id off n gi a c hg ho hn ha => exact .vw id off n gi a c (hL.g _ _ hg) ho hn ha
  | elt id i off gi hg hi => exact .elt id i off gi (hL.g _ _ hg) hi
  | box id off gi hg => exact .box id off gi (hL.g _ _ hg)
  | mp id gi hg => exact .mp id gi (hL.g _ _ hg)
  | it id gi hg => exact .it id gi (hL.g _ _ hg)
  | fn f first caps us vs hl hs hf hr ihf ih => exact .fn f first caps us vs hl hs ihf ih

theorem Tc.one {g A w} {d : D} {u : Value} (h : Tc g A w d u) : u.oneCell' = true := by
  cases h with
  | c d u h => exact h.one
  | _ => rfl

theorem Tv.mono {g A w g' A' w'} {d : D} {u : Value} (h : Tv g A w d u) (hL : Le g A w g' A' w') : Tv g' A' w' d u := by
  induction h with
  | c d u h => exact .c d u (h.mono hL)
  | agg cs us hl hr => exact .agg cs us hl fun i d u h1 h2 => (hr i d u h1 h2).mono hL
  | tup ds us hl hr ih => exact .tup ds us hl ih
  | junk u => exact .junk u

def Ent.ex : Ent → Bool
  | .cells _ | .iter _ _ => true
  | .row _ _ e | .map _ e => e
  | .dead => false

/-- The frame's constants. -/
structure Fr where
  w0 : World
  A : Nat → Prop
  io : List Nat
  n : Nat
  np : Nat
  pb : Nat → Option Nat

def Fr.B (F : Fr) : Nat := F.w0.heap.size

/-- The blocks that nobody writes any more. -/
def Ok (F : Fr) (g : Nat → Option GI) (M : Nat → Option Ent) (w : World) (b : Nat) : Prop :=
  b < w.heap.size ∧ (b < F.B → F.A b) ∧ ∀ id e gi, M id = some e → e.ex = true → g id = some gi → gi.live = true → gi.blk ≠ b

/-- Entries of a map. -/
def EntsOk (A : Nat → Prop) (w : World) (kvs : List (D × D)) (es : List MapEntry) : Prop :=
  es.length = kvs.length ∧ ∀ (i : Nat) kv e, kvs[i]? = some kv → es[i]? = some e → Tv (fun _ => none) A w kv.1 e.key ∧ Tv (fun _ => none) A w kv.2 e.val

/-- What the memory has of an identity. -/
def EntOk (g : Nat → Option GI) (A : Nat → Prop) (w : World) (gi : GI) : Ent → Prop
  | .cells cs => gi.live = true ∧ ∃ c T, w.heap[gi.blk]? = some (.cells c T (0, 0)) ∧ c.size = cs.length ∧ ∀ (i : Nat) d u, cs[i]? = some d → c[i]? = some u → Tc g A w d u
  | .row sz es ex => gi.sz = sz ∧ gi.len = es.length ∧ (∀ e, e ∈ es → e.length = sz) ∧ es.length * sz ≤ gi.cap ∧ (gi.live = false → es = [] ∧ gi.cap = 0) ∧
      (gi.live = true → (ex = false → A gi.blk) ∧ ∃ c T, w.heap[gi.blk]? = some (.cells c T (0, 0)) ∧ gi.cap ≤ c.size ∧ ∀ (i j : Nat) e d u, es[i]? = some e → e[j]? = some d → c[i * sz + j]? = some u → Rc A w d u)
  | .map kvs ex => gi.live = true ∧ (ex = false → A gi.blk) ∧ ∃ es : Array MapEntry, w.heap[gi.blk]? = some (.map es es.size) ∧ (∀ (i : Nat) e, es[i]? = some e → e.born = i) ∧ EntsOk A w kvs es.toList
  | .iter left last => gi.live = true ∧ ∃ (mb : Nat) (es : Array MapEntry) (seen : Array Nat), A mb ∧ w.heap[mb]? = some (.map es es.size) ∧ (∀ (i : Nat) e, es[i]? = some e → e.born = i) ∧ w.heap[gi.blk]? = some (.mapIter (some mb) es.size seen es.size) ∧
      EntsOk A w left (leftOf es seen).toList ∧ ∀ kv, last = some kv → ∃ (s0 : Array Nat) (e : MapEntry), seen = s0.push e.born ∧ e ∈ es.toList ∧ Tv (fun _ => none) A w kv.1 e.key ∧ Tv (fun _ => none) A w kv.2 e.val
  | .dead => True

structure MemOk (F : Fr) (g : Nat → Option GI) (M : Nat → Option Ent) (w : World) : Prop where
  ent : ∀ id e, M id = some e → ∃ gi, g id = some gi ∧ EntOk g (Ok F g M w) w gi e
  dom : ∀ id gi, g id = some gi → ∃ e, M id = some e
  inj : ∀ i j ei ej gi gj, i ≠ j → M i = some ei → M j = some ej → ei.ex = true → ej.ex = true → g i = some gi → g j = some gj → gi.live = true → gj.live = true → gi.blk ≠ gj.blk
  lo : ∀ i e gi, M i = some e → e.ex = true → g i = some gi → gi.live = true → gi.blk < w.heap.size ∧ (gi.blk < F.B → gi.blk ∈ F.io)
  hi : ∀ i e gi, F.np ≤ i → M i = some e → e.ex = true → g i = some gi → gi.live = true → F.B ≤ gi.blk
  size : F.B ≤ w.heap.size
  old : ∀ b, b < F.B → b ∉ F.io → w.heap[b]? = F.w0.heap[b]?
  os : w.os = F.w0.os
  tape : w.tape = F.w0.tape
  output : w.output = F.w0.output
  dr : F.w0.drawn ≤ w.drawn
  ioA : ∀ b, b ∈ F.io → ¬ F.A b
  par : ∀ j b, F.pb j = some b → j < F.np ∧ ∃ gi, g j = some gi ∧ gi.blk = b

structure S where
  env : Nat → D
  mem : Nat → Option Ent
  nx : Nat

/-- A state tells of a frame and a world. -/
def Inv (F : Fr) (s : S) (a : Act) (w : World) : Prop :=
  a.defers = [] ∧ a.tmps.size = F.n ∧ ∃ g, MemOk F g s.mem w ∧ ∀ t, Tv g (Ok F g s.mem w) w (s.env t) (a.tmps.getD t undef)

def upd {α : Type} (f : Nat → α) (i : Nat) (x : α) : Nat → α := fun j => if j = i then x else f j
@[simp] theorem upd_same {α : Type} (f : Nat → α) (i : Nat) (x : α) : upd f i x i = x := by simp [upd]
theorem upd_ne {α : Type} (f : Nat → α) {i j : Nat} (x : α) (h : j ≠ i) : upd f i x j = f j := by simp [upd, h]

end Go.Abs
