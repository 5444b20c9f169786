/- The abstract machine, twentieth part: regions as the rules see them, one operation after another. -/
import Derived.Test.YtgihcmeifafnjaaCAbsS
set_option linter.unusedVariables false
set_option linter.unusedSimpArgs false
namespace Go.Abs
open Go

/-- Two ways, of which one is not looked into before the test is known. -/
def gate (b want : Bool) (A B : Prop) : Prop := (b = want → A) ∧ (b = !want → B)
@[congr] theorem gate_congr {b b' want : Bool} {A B : Prop} (h : b = b') : gate b want A B = gate b' want A B := by rw [h]
theorem gate_tt {A B : Prop} : gate true true A B = A := by simp [gate]
theorem gate_tf {A B : Prop} : gate true false A B = B := by simp [gate]
theorem gate_ft {A B : Prop} : gate false true A B = B := by simp [gate]
theorem gate_ff {A B : Prop} : gate false false A B = A := by simp [gate]
theorem gate_intro {b want : Bool} {A B : Prop} (h1 : b = want → A) (h2 : b = !want → B) : gate b want A B := ⟨h1, h2⟩

/-- What follows is not looked into. -/
def Next (A : Prop) : Prop := A
@[congr] theorem next_congr {A : Prop} : Next A = Next A := rfl

def at_ : List (Option Tmp) → Nat → Option Tmp
  | [], _ => none
  | x :: l, i => if i = 0 then x else at_ l (i - 1)
theorem at_get (ops : List Oper) : ∀ j, at_ (ops.map Oper.dst) j = (ops[j]?).bind (·.dst) := by
  induction ops with
  | nil => intro j; simp [at_]
  | cons o l ih =>
    intro j
    cases j with
    | zero => simp [at_]
    | succ j => simp [at_, ih]

def dstOk (n : Nat) : Option Tmp → Prop
  | some t => t < n
  | none => True

/-- One operation; nx: what follows. -/
def stepK (P : Program) (K : Kt) (n np : Nat) (ds : List (Option Tmp)) (o : Oper) (fid : Nat) (s : S) (nx : D → Mem → Prop) : Prop :=
  dstOk n o.dst ∧ match o.guard with
  | none => sem P K np o.op (opd s) s.mem fid nx
  | some (j, want) => match at_ ds j with
    | some t => match s.env t with
      | .v (.bool b) => gate b want (sem P K np o.op (opd s) s.mem fid nx) (nx (.tup []) s.mem)
      | .tup [] => nx (.tup []) s.mem
      | _ => False
    | none => False

theorem stepK_eq {P : Program} {K : Kt} {n np : Nat} {ops : List Oper} {o : Oper} {fid : Nat} {s : S} {Q : S → Prop} : stepK P K n np (ops.map Oper.dst) o fid s (fun d M => Q (s.put o.dst d M)) = stepOp P K n np ops.toArray o fid s Q := by
  obtain ⟨dst, op, ty, pos, aft, g⟩ := o
  have h1 : dstOk n dst = (match dst with | some t => t < n | none => True) := by cases dst <;> rfl
  unfold stepK stepOp
  simp only
  rw [h1]
  cases g with
  | none => rfl
  | some g =>
    obtain ⟨j, want⟩ := g
    simp only [List.getElem?_toArray, at_get]
    rfl

def runL (P : Program) (K : Kt) (n np : Nat) (ds : List (Option Tmp)) : List Oper → Nat → S → (S → Prop) → Prop
  | [], _, s, Q => Q s
  | o :: l, fid, s, Q => stepK P K n np ds o fid s fun d M => runL P K n np ds l (fid + 4) (s.put o.dst d M) Q
def kont (P : Program) (K : Kt) (n np : Nat) (ds : List (Option Tmp)) (l : List Oper) (fid : Nat) (s : S) (dst : Option Tmp) (Q : S → Prop) : D → Mem → Prop := fun d M => runL P K n np ds l fid (s.put dst d M) Q
theorem kont_app (P : Program) (K : Kt) (n np : Nat) (ds : List (Option Tmp)) (l : List Oper) (fid : Nat) (s : S) (dst : Option Tmp) (Q : S → Prop) (d : D) (M : Mem) : kont P K n np ds l fid s dst Q d M = runL P K n np ds l fid (s.put dst d M) Q := rfl
theorem runL_nil (P : Program) (K : Kt) (n np : Nat) (ds : List (Option Tmp)) (fid : Nat) (s : S) (Q : S → Prop) : runL P K n np ds [] fid s Q = Q s := rfl
theorem runL_cons (P : Program) (K : Kt) (n np : Nat) (ds : List (Option Tmp)) (o : Oper) (l : List Oper) (fid : Nat) (s : S) (Q : S → Prop) : runL P K n np ds (o :: l) fid s Q = stepK P K n np ds o fid s (kont P K n np ds l (fid + 4) s o.dst Q) := rfl

theorem runL_eq {P : Program} {K : Kt} {n np : Nat} {ops : List Oper} : ∀ (l : List Oper) (fid : Nat) (s : S) (Q : S → Prop), runL P K n np (ops.map Oper.dst) l fid s Q = runOps P K n np ops.toArray l fid s Q
  | [], fid, s, Q => rfl
  | o :: l, fid, s, Q => by
    unfold runL runOps
    rw [← stepK_eq]
    congr 1
    funext d M
    exact runL_eq l (fid + 4) _ Q

/-- .. with a check of what may change places. -/
def dRunL (P : Program) (K : Kt) (n np : Nat) (ops : Array Oper) (ds : List (Option Tmp)) : List Oper → Nat → Nat → List Le3 → S → (S → Prop) → Prop
  | [], _, _, log, s, Q => chk ops log = true ∧ Q s
  | o :: l, i, fid, log, s, Q => match foot K np o.op (opd s) s.mem fid with
    | some (T, W) => stepK P K n np ds o fid s fun d M => dRunL P K n np ops ds l (i + 1) (fid + 4) (⟨i, T, W⟩ :: log) (s.put o.dst d M) Q
    | none => False
def dKont (P : Program) (K : Kt) (n np : Nat) (ops : Array Oper) (ds : List (Option Tmp)) (l : List Oper) (i fid : Nat) (log : List Le3) (s : S) (dst : Option Tmp) (Q : S → Prop) : D → Mem → Prop := fun d M => dRunL P K n np ops ds l i fid log (s.put dst d M) Q
/-- The footprint is known ahead of the step. -/
def footK (P : Program) (K : Kt) (n np : Nat) (ops : Array Oper) (ds : List (Option Tmp)) (o : Oper) (l : List Oper) (i fid : Nat) (log : List Le3) (s : S) (Q : S → Prop) : Option (List Nat × List Nat) → Prop
  | some (T, W) => stepK P K n np ds o fid s (dKont P K n np ops ds l (i + 1) (fid + 4) (⟨i, T, W⟩ :: log) s o.dst Q)
  | none => False
theorem dKont_app (P : Program) (K : Kt) (n np : Nat) (ops : Array Oper) (ds : List (Option Tmp)) (l : List Oper) (i fid : Nat) (log : List Le3) (s : S) (dst : Option Tmp) (Q : S → Prop) (d : D) (M : Mem) : dKont P K n np ops ds l i fid log s dst Q d M = dRunL P K n np ops ds l i fid log (s.put dst d M) Q := rfl
theorem dRunL_nil (P : Program) (K : Kt) (n np : Nat) (ops : Array Oper) (ds : List (Option Tmp)) (i fid : Nat) (log : List Le3) (s : S) (Q : S → Prop) : dRunL P K n np ops ds [] i fid log s Q = (chk ops log = true ∧ Q s) := rfl
theorem dRunL_cons (P : Program) (K : Kt) (n np : Nat) (ops : Array Oper) (ds : List (Option Tmp)) (o : Oper) (l : List Oper) (i fid : Nat) (log : List Le3) (s : S) (Q : S → Prop) : dRunL P K n np ops ds (o :: l) i fid log s Q = footK P K n np ops ds o l i fid log s Q (foot K np o.op (opd s) s.mem fid) := by
  simp only [dRunL]
  cases foot K np o.op (opd s) s.mem fid <;> rfl

theorem dRunL_eq {P : Program} {K : Kt} {n np : Nat} {ops : List Oper} : ∀ (l : List Oper) (i fid : Nat) (log : List Le3) (s : S) (Q : S → Prop), dRunL P K n np ops.toArray (ops.map Oper.dst) l i fid log s Q = dRun P K n np ops.toArray l i fid log s Q
  | [], i, fid, log, s, Q => rfl
  | o :: l, i, fid, log, s, Q => by
    simp only [dRunL, dRun]
    cases hf : foot K np o.op (opd s) s.mem fid with
    | none => rfl
    | some TW =>
      simp only
      rw [← stepK_eq]
      congr 1
      funext d M
      exact dRunL_eq l (i + 1) (fid + 4) _ _ Q

section rules
variable {P : Program} {n np : Nat} {Q : Exit → S → Prop}

/-- The end of a region. -/
def endS (s : S) (nx : Nat) : S := { s with nx := nx }
/-- What a region hands on. -/
def endQ (Q : Exit → S → Prop) (nx : Nat) : S → Prop := fun s => Q .normal (endS s nx)
theorem endQ_app (Q : Exit → S → Prop) (nx : Nat) (el : List (Nat × D)) (ml : List (Nat × Ent)) (x : Nat) : endQ Q nx ⟨envOf el, memOf ml, x⟩ = Q .normal ⟨envOf el, memOf ml, nx⟩ := rfl

theorem aw_reg {K : Kt} (hK : KOk P K) {id : Nat} {ops : List Oper} {el : List (Nat × D)} {ml : List (Nat × Ent)} {x : Nat}
    (h : runL P K n np (ops.map Oper.dst) ops x ⟨envOf el, memOf ml, x⟩ (endQ Q (x + 4 * ops.length))) : AW P n np (.region id ops.toArray false) Q ⟨envOf el, memOf ml, x⟩ :=
  aw_region hK (by rw [← runL_eq]; exact h)

theorem aw_drw {K : Kt} (hm : P.follows .mixedOrders = true) (hK : KOk P K) (hD : KDet K) {id : Nat} {ops : List Oper} {el : List (Nat × D)} {ml : List (Nat × Ent)} {x : Nat}
    (h : dRunL P K n np ops.toArray (ops.map Oper.dst) ops 0 x [] ⟨envOf el, memOf ml, x⟩ (endQ Q (x + 4 * ops.length))) : AW P n np (.region id ops.toArray true) Q ⟨envOf el, memOf ml, x⟩ :=
  aw_drawn hm hK hD (by rw [← dRunL_eq]; exact h)

def condP : D → Prop → Prop → Prop
  | .v (.bool b), A, B => gate b true A B
  | _, _, _ => False
theorem aw_if {s : S} {c : Operand} {x y : Code} (h : condP (opd s c) (AW P n np x Q s) (AW P n np y Q s)) : AW P n np (.cond c x y) Q s := by
  unfold condP at h
  split at h
  · rename_i b hb
    exact aw_cond hb (fun hh => h.1 hh) (fun hh => h.2 hh)
  · exact h.elim
@[congr] theorem condP_congr {d d' : D} {A B : Prop} (h : d = d') : condP d A B = condP d' A B := by rw [h]
@[congr] theorem thenQ_congr {R : S → Prop} {Q : Exit → S → Prop} {e : Exit} {s s' : S} (h : s = s') : thenQ R Q e s = thenQ R Q e s' := by rw [h]
@[congr] theorem blockQ_congr {id : Nat} {Q : Exit → S → Prop} {e : Exit} {s s' : S} (h : s = s') : blockQ id Q e s = blockQ id Q e s' := by rw [h]
@[congr] theorem AW_congr {c : Code} {s s' : S} (h : s = s') : AW P n np c Q s = AW P n np c Q s' := by rw [h]
@[congr] theorem runL_congr {K : Kt} {ds : List (Option Tmp)} {l : List Oper} {f f' : Nat} {s s' : S} {R : S → Prop} (h : s = s') (hf : f = f') : runL P K n np ds l f s R = runL P K n np ds l f' s' R := by rw [h, hf]
@[congr] theorem kont_congr {K : Kt} {ds : List (Option Tmp)} {l : List Oper} {f f' : Nat} {s s' : S} {dst : Option Tmp} {R : S → Prop} {d d' : D} {M M' : Mem} (h : s = s') (hf : f = f') (hd : d = d') (hM : M = M') : kont P K n np ds l f s dst R d M = kont P K n np ds l f' s' dst R d' M' := by rw [h, hf, hd, hM]
@[congr] theorem dRunL_congr {K : Kt} {ops : Array Oper} {ds : List (Option Tmp)} {l : List Oper} {i i' f f' : Nat} {g g' : List Le3} {s s' : S} {R : S → Prop} (h : s = s') (hi : i = i') (hf : f = f') (hg : g = g') : dRunL P K n np ops ds l i f g s R = dRunL P K n np ops ds l i' f' g' s' R := by rw [h, hi, hf, hg]
@[congr] theorem dKont_congr {K : Kt} {ops : Array Oper} {ds : List (Option Tmp)} {l : List Oper} {i i' f f' : Nat} {g g' : List Le3} {s s' : S} {dst : Option Tmp} {R : S → Prop} {d d' : D} {M M' : Mem} (h : s = s') (hi : i = i') (hf : f = f') (hg : g = g') (hd : d = d') (hM : M = M') : dKont P K n np ops ds l i f g s dst R d M = dKont P K n np ops ds l i' f' g' s' dst R d' M' := by rw [h, hi, hf, hg, hd, hM]
@[congr] theorem footK_congr {K : Kt} {ops : Array Oper} {ds : List (Option Tmp)} {o : Oper} {l : List Oper} {i i' f f' : Nat} {g g' : List Le3} {s s' : S} {R : S → Prop} {x x' : Option (List Nat × List Nat)} (h : s = s') (hi : i = i') (hf : f = f') (hg : g = g') (hx : x = x') : footK P K n np ops ds o l i f g s R x = footK P K n np ops ds o l i' f' g' s' R x' := by rw [h, hi, hf, hg, hx]
def retP2 (np : Nat) (kinds : List Bool) (post : Res → Prop) (ds : List D) (M : Mem) : Prop :=
  match mapO (rdOf np M) ds, ioOut M kinds 0 with
  | some rds, some ios => (ds.filterMap (ownId M)).Nodup ∧ post ⟨rds, ios⟩
  | _, _ => False
def retP (P : Program) (np : Nat) (kinds : List Bool) (rvs : List ResultVar) (post : Res → Prop) (s : S) : Prop :=
  match mapO (resD P s) rvs with
  | some ds => retP2 np kinds post ds (frzA np (frzR np s.mem ds) (ioBoxes kinds 0))
  | none => False
theorem retS_of {kinds : List Bool} {rvs : List ResultVar} {post : Res → Prop} {s : S} (h : retP P np kinds rvs post s) : RetS P np kinds rvs post s := by
  unfold retP at h
  split at h
  · rename_i ds hds
    unfold retP2 at h
    split at h
    · rename_i rds ios h1 h2
      exact ⟨ds, hds, _, rfl, rds, ios, h1, h2, h.1, h.2⟩
    · exact h.elim
  · exact h.elim
theorem aw_ret' {kinds : List Bool} {rvs : List ResultVar} {post : Res → Prop} {s : S} (h : retP P np kinds rvs post s) : RetQ P np kinds rvs post .ret s := retS_of h
theorem aw_end' {kinds : List Bool} {rvs : List ResultVar} {post : Res → Prop} {s : S} (h : retP P np kinds rvs post s) : RetQ P np kinds rvs post .normal s := retS_of h
end rules

theorem semPick_b (t : Bool) (a b : D) (M : Mem) (nx : D → Mem → Prop) : semPick (.v (.bool t)) a b M nx = gate t true (nx a M) (nx b M) := rfl
theorem kont_in {P : Program} {K : Kt} {n np : Nat} {ds : List (Option Tmp)} {l : List Oper} {fid : Nat} {s : S} {dst : Option Tmp} {Q : S → Prop} {d : D} {M : Mem} (h : runL P K n np ds l fid (s.put dst d M) Q) : kont P K n np ds l fid s dst Q d M := h
theorem dKont_in {P : Program} {K : Kt} {n np : Nat} {ops : Array Oper} {ds : List (Option Tmp)} {l : List Oper} {i fid : Nat} {log : List Le3} {s : S} {dst : Option Tmp} {Q : S → Prop} {d : D} {M : Mem} (h : dRunL P K n np ops ds l i fid log (s.put dst d M) Q) : dKont P K n np ops ds l i fid log s dst Q d M := h

theorem memOf_free {ml : List (Nat × Ent)} {fid : Nat} (h : (ml.all fun p => decide (p.1 < fid)) = true) (j : Nat) : memOf ml (fid + j) = none := by
  induction ml with
  | nil => rfl
  | cons p ml ih =>
    simp only [List.all_cons, Bool.and_eq_true, decide_eq_true_eq] at h
    obtain ⟨k, e⟩ := p
    simp only [memOf]
    rw [if_neg (by omega)]
    exact ih h.2

/-- A call of a function that hands back one value. -/
theorem call_fn {K : Kt} {f : FuncId} {c : Con} {np fid : Nat} {ds : List D} {M : Mem} {nx : D → Mem → Prop} {res : c.α → D} (hk : K f = some c) (hs : c.srt = none) (hcl : c.clean = true) (hpost : ∀ a r, c.post a r → r = ⟨[.d (res a)], []⟩)
    (a : c.α) (ha : argsV M ds = some (c.args a)) (hp : c.pre a) (hfree : M fid = none) (hn : nx (res a) M) : semCall K np f ds M fid nx := by
  unfold semCall
  rw [hk]
  simp only [hs, hcl, if_true]
  refine ⟨a, ha, hp, fun r hr => ?_⟩
  rw [hpost a r hr]
  refine ⟨fun j hj => ?_, hn⟩
  have : j = 0 := by simpa using hj
  subst this; exact hfree

/-- A call of a method that turns the variable behind its receiver and hands back one value. -/
theorem call_io {K : Kt} {f : FuncId} {c : Con} {np fid id : Nat} {ds : List D} {M : Mem} {nx : D → Mem → Prop} {res : c.α → D} {cs : c.α → List D} (hk : K f = some c) (hs : c.srt = none) (hcl : c.clean = false) (hpost : ∀ a r, c.post a r → r = ⟨[.d (res a)], [cs a]⟩)
    (a : c.α) (hnf : ds.all (nf np M) = true) (hid : ioIds c.kinds ds = [id]) (ha : argsF M c.kinds ds = some (c.args a)) (hp : c.pre a) (hfree : M fid = none) (hn : nx (res a) (upd M id (some (.cells (cs a))))) : semCall K np f ds M fid nx := by
  unfold semCall
  rw [hk]
  simp only [hs, hcl, nfA_eq hnf, hid]
  refine ⟨by simp, a, ha, hp, fun r hr => ?_⟩
  rw [hpost a r hr]
  refine ⟨fun j hj => ?_, hn⟩
  have : j = 0 := by simpa using hj
  subst this; exact hfree

/-- .. which freezes rows that it is given. -/
theorem call_ioF {K : Kt} {f : FuncId} {c : Con} {np fid id : Nat} {ds : List D} {M M' : Mem} {nx : D → Mem → Prop} {res : c.α → D} {cs : c.α → List D} (hk : K f = some c) (hs : c.srt = none) (hcl : c.clean = false) (hpost : ∀ a r, c.post a r → r = ⟨[.d (res a)], [cs a]⟩)
    (a : c.α) (hfr : frzA np M ds = M') (hid : ioIds c.kinds ds = [id]) (ha : argsF M' c.kinds ds = some (c.args a)) (hp : c.pre a) (hfree : M fid = none) (hn : nx (res a) (upd M' id (some (.cells (cs a))))) : semCall K np f ds M fid nx := by
  unfold semCall
  rw [hk]
  simp only [hs, hcl, hfr, hid]
  refine ⟨by simp, a, ha, hp, fun r hr => ?_⟩
  rw [hpost a r hr]
  refine ⟨fun j hj => ?_, hn⟩
  have : j = 0 := by simpa using hj
  subst this; exact hfree

/-- A state that forgets some of its slots. -/
theorem weak_sub {n np : Nat} {el el' : List (Nat × D)} {ml : List (Nat × Ent)} {x y : Nat} (h : ∀ p, p ∈ el' → envOf el p.1 = p.2) : Weak n np ⟨envOf el, memOf ml, x⟩ ⟨envOf el', memOf ml, y⟩ := by
  rintro F a w hn hnp ⟨h1, h2, g, hM, henv⟩
  refine ⟨h1, h2, g, hM, fun t => ?_⟩
  rcases envOf_mem (l := el') (i := t) with hj | hj
  · simp only [hj]; exact .junk _
  · have e : envOf el t = envOf el' t := h _ hj
    have := henv t
    simp only [e] at this
    exact this

theorem chk_in {ops : Array Oper} {log : List Le3} {B : Prop} (h : chk ops log = true) (k : B) : chk ops log = true ∧ B := ⟨h, k⟩

theorem kOf_nil (g : FuncId) : kOf [] g = none := rfl

theorem put_some (el : List (Nat × D)) (ml : List (Nat × Ent)) (x : Nat) (t : Tmp) (d : D) (M : Mem) : S.put ⟨envOf el, memOf ml, x⟩ (some t) d M = ⟨envOf ((t, d) :: el), M, x⟩ := by
  rfl
theorem put_none (el : List (Nat × D)) (ml : List (Nat × Ent)) (x : Nat) (d : D) (M : Mem) : S.put ⟨envOf el, memOf ml, x⟩ none d M = ⟨envOf el, M, x⟩ := rfl
theorem upd_memOf (ml : List (Nat × Ent)) (i : Nat) (e : Ent) : upd (memOf ml) i (some e) = memOf ((i, e) :: ml) := by
  funext j
  simp [upd, memOf]

end Go.Abs
