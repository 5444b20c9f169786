/- The abstract machine, sixteenth part: what an operation touches; operations that touch nothing in common may change places. -/
import Derived.Test.YtgihcmeifafnjaaCAbsO
set_option linter.unusedVariables false
set_option linter.unusedSimpArgs false
namespace Go.Abs
open Go

def agr (T : List Nat) (M N : Mem) : Prop := ∀ id, id ∈ T → N id = M id
def ovr (W : List Nat) (M' N : Mem) : Mem := fun id => if id ∈ W then M' id else N id

theorem ovr_nil (M' N : Mem) : ovr [] M' N = N := by funext id; simp [ovr]
theorem ovr_upd1 (M N : Mem) (f : Nat) (e : Option Ent) : ovr [f] (upd M f e) N = upd N f e := by
  funext id; simp only [ovr, upd, List.mem_singleton]; split <;> rfl

/-- Every result of a contract is the same one. -/
def KDet (K : Kt) : Prop := ∀ f c, K f = some c → ∀ a, c.pre a → ∃ r, c.post a r ∧ r.ret.length ≤ 4 ∧ ∀ r', c.post a r' → r' = r
theorem kDet_nil : KDet (kOf []) := fun f c h => by simp [kOf] at h
theorem kDet_cons {f : FuncId} {c : Con} {l : List (FuncId × Con)} (h : ∀ a, c.pre a → ∃ r, c.post a r ∧ r.ret.length ≤ 4 ∧ ∀ r', c.post a r' → r' = r) (r : KDet (kOf l)) : KDet (kOf ((f, c) :: l)) := by
  intro g d hd
  simp only [kOf] at hd
  split at hd
  · cases hd; exact h
  · exact r g d hd

def ids0 : D → List Nat
  | .row id | .vw id _ _ | .elt id _ _ | .box id _ | .mp id | .it id => [id]
  | _ => []

def ids (M : Mem) : Nat → D → List Nat
  | 0, d => ids0 d
  | n + 1, .box id off => id :: (match M id with
    | some (.cells cs) => cs.flatMap (ids M n)
    | _ => [])
  | n + 1, .fn f x y => x.flatMap (ids M n) ++ y.flatMap (ids M n)
  | n + 1, .agg cs => cs.flatMap (ids M n)
  | n + 1, d => ids0 d

theorem mapO_congr {α β : Type} {f f' : α → Option β} : ∀ {l : List α}, (∀ x, x ∈ l → f' x = f x) → mapO f' l = mapO f l
  | [], _ => rfl
  | x :: l, h => by simp only [mapO]; rw [h x List.mem_cons_self, mapO_congr fun y hy => h y (List.mem_cons_of_mem _ hy)]

theorem fz0_congr {M N : Mem} {b : Bool} {d : D} (h : agr (ids0 d) M N) : fz0 N b d = fz0 M b d := by
  unfold fz0
  split <;> first | rfl | (rename_i id; rw [h id (by simp [ids0])]) | (rename_i id _ _; rw [h id (by simp [ids0])])

theorem fz_congr {M N : Mem} {b : Bool} : ∀ (n m : Nat) (d : D), n ≤ m → agr (ids M m d) M N → fz N b n d = fz M b n d
  | 0, m, d, hm, h => by
    cases m with
    | zero => exact fz0_congr h
    | succ m =>
      unfold fz
      cases d <;> first | rfl | exact fz0_congr h | (simp only [fz0])
  | n + 1, 0, d, hm, h => by omega
  | n + 1, m + 1, d, hm, h => by
    cases d with
    | box id off =>
      simp only [fz]
      simp only [ids] at h
      rw [h id List.mem_cons_self]
      split
      · rename_i cs hc
        have : mapO (fz N b n) cs = mapO (fz M b n) cs := mapO_congr fun x hx => fz_congr n m x (by omega) fun i hi => h i (List.mem_cons_of_mem _ (by rw [hc]; exact List.mem_flatMap.2 ⟨x, hx, hi⟩))
        rw [this]
      · rfl
    | fn f x y =>
      simp only [fz]
      simp only [ids] at h
      have h1 : mapO (fz N b n) x = mapO (fz M b n) x := mapO_congr fun z hz => fz_congr n m z (by omega) fun i hi => h i (List.mem_append_left _ (List.mem_flatMap.2 ⟨z, hz, hi⟩))
      have h2 : mapO (fz N b n) y = mapO (fz M b n) y := mapO_congr fun z hz => fz_congr n m z (by omega) fun i hi => h i (List.mem_append_right _ (List.mem_flatMap.2 ⟨z, hz, hi⟩))
      rw [h1, h2]
    | agg cs =>
      simp only [fz]
      simp only [ids] at h
      have h1 : mapO (fz N b n) cs = mapO (fz M b n) cs := mapO_congr fun z hz => fz_congr n m z (by omega) fun i hi => h i (List.mem_flatMap.2 ⟨z, hz, hi⟩)
      rw [h1]
    | row id => exact fz0_congr (d := .row id) h
    | vw id x y => exact fz0_congr (d := .vw id x y) h
    | elt id x y => exact fz0_congr (d := .elt id x y) h
    | _ => rfl

theorem rowsOf_congr {M N : Mem} {d : D} (h : agr (ids0 d) M N) : rowsOf N d = rowsOf M d := by
  unfold rowsOf
  split <;> first | rfl | (rename_i id; rw [h id (by simp [ids0])]) | (rename_i id _ _; rw [h id (by simp [ids0])])

/-- Nothing to freeze in it. -/
def nf1 (np : Nat) (M : Mem) (id : Nat) : Bool := match M id with
  | some (.row _ _ true) => decide (id < np)
  | _ => true
def nf0 (np : Nat) (M : Mem) : D → Bool
  | .row id => nf1 np M id
  | .vw id _ _ => nf1 np M id
  | .elt id _ _ => nf1 np M id
  | _ => true
def nf (np : Nat) (M : Mem) : D → Bool
  | .agg cs => cs.all (nf0 np M)
  | .box id _ => match M id with
    | some (.cells cs) => cs.all (nf0 np M)
    | _ => true
  | d => nf0 np M d

theorem nf1_eq {np : Nat} {M : Mem} {id : Nat} (h : nf1 np M id = true) : frz1 np M id = M := by
  unfold nf1 at h; unfold frz1
  split at h
  · rename_i hm
    simp only [hm]
    rw [if_neg (by simp at h; omega)]
  · rename_i hm
    split
    · rename_i hq; exact absurd hq (hm _ _)
    · rfl
theorem nf0_eq {np : Nat} {M : Mem} {d : D} (h : nf0 np M d = true) : frz0 np M d = M := by
  cases d <;> first | exact nf1_eq h | rfl
theorem nfL_eq {np : Nat} {M : Mem} : ∀ {l : List D}, l.all (nf0 np M) = true → frzL np M l = M
  | [], _ => rfl
  | d :: l, h => by
    simp only [List.all_cons, Bool.and_eq_true] at h
    simp only [frzL, nf0_eq h.1]
    exact nfL_eq h.2
theorem nf_eq {np : Nat} {M : Mem} {d : D} (h : nf np M d = true) : frz np M d = M := by
  cases d with
  | agg cs => exact nfL_eq h
  | box id off =>
    simp only [nf] at h
    simp only [frz]
    split <;> first | rfl | (rename_i cs hc; simp only [hc] at h; exact nfL_eq h)
  | row id => exact nf0_eq (d := .row id) h
  | vw id a b => exact nf0_eq (d := .vw id a b) h
  | elt id a b => exact nf0_eq (d := .elt id a b) h
  | _ => rfl
theorem nfA_eq {np : Nat} {M : Mem} : ∀ {l : List D}, l.all (nf np M) = true → frzA np M l = M
  | [], _ => rfl
  | d :: l, h => by
    simp only [List.all_cons, Bool.and_eq_true] at h
    simp only [frzA, nf_eq h.1]
    exact nfA_eq h.2
theorem nf0_congr {np : Nat} {M N : Mem} {d : D} (h : agr (ids0 d) M N) : nf0 np N d = nf0 np M d := by
  cases d <;> first | rfl | (simp only [nf0, nf1]; rw [h _ (by simp [ids0])])
theorem all_congr {α : Type} {f g : α → Bool} : ∀ {l : List α}, (∀ x, x ∈ l → f x = g x) → l.all f = l.all g
  | [], _ => rfl
  | x :: l, h => by simp only [List.all_cons]; rw [h x List.mem_cons_self, all_congr fun y hy => h y (List.mem_cons_of_mem _ hy)]
theorem ids_ids0 {M : Mem} (n : Nat) (d : D) : ∀ i, i ∈ ids0 d → i ∈ ids M n d := by
  intro i hi
  cases n with
  | zero => exact hi
  | succ n => cases d <;> first | exact hi | (simp [ids0] at hi; subst hi; simp [ids]; done) | simp [ids0] at hi
theorem nf_congr {np : Nat} {M N : Mem} {d : D} (n : Nat) (h : agr (ids M (n + 1) d) M N) : nf np N d = nf np M d := by
  cases d with
  | agg cs =>
    simp only [nf]
    exact all_congr fun x hx => nf0_congr fun i hi => h i (List.mem_flatMap.2 ⟨x, hx, ids_ids0 n x i hi⟩)
  | box id off =>
    simp only [nf]
    rw [h id (by simp [ids])]
    split
    · rename_i cs hc
      exact all_congr fun x hx => nf0_congr fun i hi => h i (by simp only [ids, hc]; exact List.mem_cons_of_mem _ (List.mem_flatMap.2 ⟨x, hx, ids_ids0 n x i hi⟩))
    · rfl
  | row id => exact nf0_congr (d := .row id) h
  | vw id a b => exact nf0_congr (d := .vw id a b) h
  | elt id a b => exact nf0_congr (d := .elt id a b) h
  | _ => rfl

def fid4 (fid : Nat) : List Nat := [fid, fid + 1, fid + 2, fid + 3]

/-- What an operation touches; what it writes. -/
def foot (K : Kt) (np : Nat) (op : Op) (ρ : Operand → D) (M : Mem) (fid : Nat) : Option (List Nat × List Nat) :=
  match op with
  | .move _ | .assign _ | .pick .. | .build .. | .nilCheck _ | .binOp .. | .unOp .. | .convert .. | .makeFunc .. | .fieldAddr .. | .field .. | .index .. | .extract .. => some ([], [])
  | .alloc _ | .box .. | .makeSlice .. => some ([], [fid])
  | .load t a => some (ids0 (ρ a), [])
  | .indexAddr t x i => some (ids0 (ρ x), [])
  | .slice t x lo hi none => some (ids0 (ρ x), [])
  | .buildSlice t len parts => if ((partsD ρ parts).map (·.2)).all (nf np M) then some (((partsD ρ parts).map (·.2)).flatMap (ids M 5), [fid]) else none
  | .store t a x => if nf np M (ρ x) then some (ids M 5 (ρ x), ids0 (ρ a)) else none
  | .call c => match c.callee with
    | .builtin b => match b, c.args.toList.map ρ with
      | .len, [x] => some (ids0 x, [])
      | .append, [s, x] => some (ids0 x, ids0 s ++ [fid])
      | .min, _ => some ([], [])
      | .max, _ => some ([], [])
      | _, _ => none
    | .value f => match ρ f with
      | .fn f first caps => match K f with
        | some k => match k.srt with
          | some _ => none
          | none => if k.clean then some ((first ++ c.args.toList.map ρ ++ caps).flatMap (ids M 5), fid4 fid)
          else if (first ++ c.args.toList.map ρ ++ caps).all (nf np M) then some ((first ++ c.args.toList.map ρ ++ caps).flatMap (ids M 5), ioIds k.kinds (first ++ c.args.toList.map ρ ++ caps) ++ fid4 fid) else none
        | none => none
      | _ => none
    | _ => none
  | _ => none

def LocAt (T W : List Nat) (f : Mem → (D → Mem → Prop) → Prop) (M : Mem) (nx : D → Mem → Prop) : Prop :=
  ∃ d M', nx d M' ∧ (∀ id, id ∉ W → M' id = M id) ∧ ∀ N, agr (T ++ W) M N → ∀ nx' : D → Mem → Prop, nx' d (ovr W M' N) → f N nx'

theorem LocAt.read {T : List Nat} {f : Mem → (D → Mem → Prop) → Prop} {M : Mem} {nx : D → Mem → Prop} (d : D) (h : nx d M) (k : ∀ N, agr T M N → ∀ nx' : D → Mem → Prop, nx' d N → f N nx') : LocAt T [] f M nx :=
  ⟨d, M, h, fun _ _ => rfl, fun N hN nx' hn => k N (by simpa using hN) nx' (by rw [ovr_nil] at hn; exact hn)⟩
theorem LocAt.write {T : List Nat} {f : Mem → (D → Mem → Prop) → Prop} {M : Mem} {nx : D → Mem → Prop} (d : D) (i : Nat) (e : Option Ent) (h : nx d (upd M i e)) (k : ∀ N, agr (T ++ [i]) M N → ∀ nx' : D → Mem → Prop, nx' d (upd N i e) → f N nx') : LocAt T [i] f M nx :=
  ⟨d, _, h, fun id hid => upd_ne _ _ (by simpa using hid), fun N hN nx' hn => k N hN nx' (by rw [ovr_upd1] at hn; exact hn)⟩

end Go.Abs
