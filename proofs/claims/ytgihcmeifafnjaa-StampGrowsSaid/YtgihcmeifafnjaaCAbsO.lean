/- The abstract machine, fifteenth part: words for proofs over it. -/
import Derived.Test.YtgihcmeifafnjaaCAbsN
set_option linter.unusedVariables false
set_option linter.unusedSimpArgs false
namespace Go.Abs
open Go

theorem upd_app {α : Type} (f : Nat → α) (i : Nat) (x : α) (j : Nat) : upd f i x j = if j = i then x else f j := rfl
theorem envOf_cons (k : Nat) (d : D) (l : List (Nat × D)) (i : Nat) : envOf ((k, d) :: l) i = if i = k then d else envOf l i := rfl
theorem envOf_nil (i : Nat) : envOf [] i = .junk := rfl
theorem memOf_cons (k : Nat) (e : Ent) (l : List (Nat × Ent)) (i : Nat) : memOf ((k, e) :: l) i = if i = k then some e else memOf l i := rfl
theorem memOf_nil (i : Nat) : memOf [] i = none := rfl

def initE : Nat → List AD → List (Nat × D)
  | _, [] => []
  | j, .d x :: l => (j, x) :: initE (j + 1) l
  | j, .io _ :: l => (j, .box j 0) :: initE (j + 1) l
def initMm : Nat → List AD → List (Nat × Ent)
  | _, [] => []
  | j, .d _ :: l => initMm (j + 1) l
  | j, .io cs :: l => (j, .cells cs) :: initMm (j + 1) l

theorem initE_get : ∀ (l : List AD) (j i : Nat), envOf (initE j l) i = if j ≤ i then (match l[i - j]? with | some (.d x) => x | some (.io _) => .box i 0 | none => .junk) else .junk
  | [], j, i => by simp [initE, envOf]
  | a :: l, j, i => by
    have ih := initE_get l (j + 1) i
    by_cases h1 : i = j
    · subst h1; cases a <;> simp [initE, envOf]
    · by_cases h2 : j ≤ i
      · have e : i - j = (i - (j + 1)) + 1 := by omega
        rw [if_pos (by omega)] at ih
        rw [if_pos h2, e, List.getElem?_cons_succ, ← ih]
        cases a <;> simp [initE, envOf, h1]
      · rw [if_neg (by omega)] at ih
        rw [if_neg h2]
        cases a <;> simp [initE, envOf, h1, ih]
theorem initMm_get : ∀ (l : List AD) (j i : Nat), memOf (initMm j l) i = if j ≤ i then (match l[i - j]? with | some (.io cs) => some (.cells cs) | _ => none) else none
  | [], j, i => by simp [initMm, memOf]
  | a :: l, j, i => by
    have ih := initMm_get l (j + 1) i
    by_cases h1 : i = j
    · subst h1
      rw [if_neg (by omega)] at ih
      cases a <;> simp [initMm, memOf, ih]
    · by_cases h2 : j ≤ i
      · have e : i - j = (i - (j + 1)) + 1 := by omega
        rw [if_pos (by omega)] at ih
        rw [if_pos h2, e, List.getElem?_cons_succ, ← ih]
        cases a <;> simp [initMm, memOf, h1]
      · rw [if_neg (by omega)] at ih
        rw [if_neg h2]
        cases a <;> simp [initMm, memOf, h1, ih]

theorem initS_eq (al : List AD) : initS al = ⟨envOf (initE 0 al), memOf (initMm 0 al), al.length⟩ := by
  unfold initS
  congr 1
  · funext i; rw [initE_get, if_pos (Nat.zero_le _), Nat.sub_zero]; cases al[i]? with | none => rfl | some a => cases a <;> rfl
  · funext i; rw [initMm_get, if_pos (Nat.zero_le _), Nat.sub_zero]; cases al[i]? with | none => rfl | some a => cases a <;> rfl

/-- Contracts that callers take as they are, by the callee's number. -/
def kOf : List (FuncId × Con) → Kt
  | [], _ => none
  | (f, c) :: l, g => if g = f then some c else kOf l g
theorem kOf_cons (f : FuncId) (c : Con) (l : List (FuncId × Con)) (g : FuncId) : kOf ((f, c) :: l) g = if g = f then some c else kOf l g := rfl
theorem kOk_nil {P : Program} : KOk P (kOf []) := fun f c h => by simp [kOf] at h
theorem kOk_cons {P : Program} {f : FuncId} {c : Con} {l : List (FuncId × Con)} (h : CallOk P f c) (r : KOk P (kOf l)) (hs : c.srt = none := by rfl) : KOk P (kOf ((f, c) :: l)) := by
  intro g d hd
  simp only [kOf] at hd
  split at hd
  · rename_i he; cases hd; subst he; rw [hs]; exact h
  · exact r g d hd
/-- A sort's contract. -/
def srtC (k : Nat) (ag : Bool) : Con := { α := Unit, kinds := [], args := fun _ => [], pre := fun _ => False, post := fun _ _ => False, clean := true, srt := some (k, ag) }
theorem kOk_sort {P : Program} {f : FuncId} {k : Nat} {ag : Bool} {l : List (FuncId × Con)} (h : SortOk P f k ag) (r : KOk P (kOf l)) : KOk P (kOf ((f, srtC k ag) :: l)) := by
  intro g d hd
  simp only [kOf] at hd
  split at hd
  · rename_i he; cases hd; subst he; exact h
  · exact r g d hd

abbrev i64 (n : Int) : D := .v (.int .i64 n)
abbrev bl (b : Bool) : D := .v (.bool b)

theorem ok_of_body' {P : Program} {f : FuncId} {c : Con} {fn : Func} {code : Code} (n np : Nat) (hf : P.funcs[f]? = some fn) (hb : fn.body = some code) (hname : (fn.name == "runtime.NumGoroutine") = false) (hn : fn.ntmps = n)
    (hargs : ∀ a, c.pre a → (c.args a).length = np ∧ (c.args a).map AD.isIo = c.kinds) (hnp : np ≤ n) (clean : c.clean = true → ∀ a r, c.pre a → c.post a r → r.ret.all plainRD = true)
    (h : ∀ a, c.pre a → AW P n np code (RetQ P np c.kinds fn.results.toList (c.post a)) ⟨envOf (initE 0 (c.args a)), memOf (initMm 0 (c.args a)), (c.args a).length⟩) : CallOk P f c :=
  ok_of_body n np hf hb hname hn hargs hnp clean fun a hp => by rw [initS_eq]; exact h a hp

end Go.Abs
