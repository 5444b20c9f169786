/- The abstract machine, twenty-first part: a nil slice is an empty one, for a callee that does not ask. -/
import Derived.Test.YtgihcmeifafnjaaCAbsT
set_option linter.unusedVariables false
set_option linter.unusedSimpArgs false
namespace Go.Abs
open Go

inductive NilLe : List AD → List AD → Prop
  | nil : NilLe [] []
  | same (x : AD) (l r : List AD) (h : NilLe l r) : NilLe (x :: l) (x :: r)
  | z (sz : Nat) (l r : List AD) (h : NilLe l r) : NilLe (.d .nils :: l) (.d (.sl sz []) :: r)
theorem NilLe.refl : ∀ l : List AD, NilLe l l
  | [] => .nil
  | x :: l => .same x l l (NilLe.refl l)

theorem ArgsOk.nilLe {A : Nat → Prop} {w : World} {l r : List AD} (h : NilLe l r) : ∀ {vs : List Value} {io : List Nat}, ArgsOk A w l vs io → ArgsOk A w r vs io := by
  induction h with
  | nil => intro vs io hA; exact hA
  | same x l r h ih =>
    intro vs io hA
    cases hA with
    | d x v al vs io hx hr => exact .d x v _ vs io hx (ih hr)
    | io cs b c T al vs io hb hl hx hr => exact .io cs b c T _ vs io hb hl hx (ih hr)
  | z sz l r h ih =>
    intro vs io hA
    cases hA with
    | d x v al vs io hx hr =>
      refine .d _ v _ vs io ?_ (ih hr)
      cases hx.cell rfl with
      | c _ _ hh => cases hh with
        | nils => exact .c _ _ (.c _ _ (.sl sz [] none 0 (fun _ _ => .nilFunc) (by simp) (by simp) (by simp) (by simp)))

def nilC (c : Con) : Con where
  α := List AD × c.α
  kinds := c.kinds
  args := fun a => a.1
  pre := fun a => NilLe a.1 (c.args a.2) ∧ c.pre a.2
  post := fun a r => c.post a.2 r
  clean := c.clean

theorem nilC_ok {P : Program} {f : FuncId} {c : Con} (h : CallOk P f c) : CallOk P f (nilC c) := by
  refine ⟨h.fn, fun hc a r hp hr => h.clean hc a.2 r hp.2 hr, fun a hp w A io vs hA hn hio hlt => ?_⟩
  exact h.calls a.2 hp.2 w A io vs (hA.nilLe hp.1) hn hio hlt

/-- A state that forgets slots and variables. -/
theorem weak_to {n np : Nat} {el el' : List (Nat × D)} {ml ml' : List (Nat × Ent)} {x y : Nat} (he : ∀ p, p ∈ el' → reD _root_.id (memOf ml') p.2 = some (envOf el p.1))
    (hm : ∀ p, p ∈ ml' → reE _root_.id (memOf ml') p.2 = memOf ml p.1 ∧ (reE _root_.id (memOf ml') p.2).isSome = true) (hp : ∀ j, j < np → memOf ml j = none ∨ (memOf ml' j).isSome = true) : Weak n np ⟨envOf el, memOf ml, x⟩ ⟨envOf el', memOf ml', y⟩ :=
  weak_re (s := ⟨envOf el, memOf ml, x⟩) _root_.id el' ml' y he (fun p hp' => ⟨(hm p hp').1, (hm p hp').2, fun h => h⟩) (fun p q _ _ h => h) (fun j hj => (hp j hj).imp _root_.id fun h => ⟨h, rfl⟩)

/-- A list's slice: nil, or of elements. -/
def IsL (sz : Nat) (es : List (List D)) (d : D) : Prop := d = .sl sz es ∨ (d = .nils ∧ es = [])

end Go.Abs
