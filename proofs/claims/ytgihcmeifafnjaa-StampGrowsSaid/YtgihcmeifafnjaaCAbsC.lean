/- The abstract machine, third part: what each operation does to a state. -/
import Derived.Test.YtgihcmeifafnjaaCAbsB
set_option linter.unusedVariables false
set_option linter.unusedSimpArgs false
namespace Go.Abs
open Go

abbrev Mem := Nat → Option Ent

/-- An argument as the callee sees it: by value, or a variable that the callee may turn. -/
inductive AD where
  | d (x : D)
  | io (cs : List D)
  deriving Inhabited

/-- A result: by value; a row, or a variable, of the callee's making. -/
inductive RD where
  | d (x : D)
  | own (sz : Nat) (es : List (List D))
  | nbox (cs : List D)
  | omap (kvs : List (D × D))
  deriving Inhabited

structure Res where
  ret : List RD
  io : List (List D)
  deriving Inhabited

/-- A contract of a function. -/
structure Con where
  α : Type
  kinds : List Bool
  args : α → List AD
  pre : α → Prop
  post : α → Res → Prop
  clean : Bool
  /-- A sort: of how many cells an element is, whether it is an aggregate. -/
  srt : Option (Nat × Bool) := none

def mapO {α β : Type} (f : α → Option β) : List α → Option (List β)
  | [] => some []
  | x :: l => match f x, mapO f l with
    | some y, some l' => some (y :: l')
    | _, _ => none

def isCell : D → Bool
  | .agg _ | .tup _ | .junk => false
  | _ => true

def cellsD : D → List D
  | .agg cs => cs
  | d => [d]

def cellD : Value → D
  | .slice none 0 0 => .nils
  | x => if flat x then .v x else .junk

def constD : Value → D
  | .agg cs => .agg (cs.toList.map cellD)
  | x => cellD x

/-- By value; 'b': also what is exclusive. -/
def fz0 (M : Mem) (b : Bool) : D → Option D
  | .v x => some (.v x)
  | .nils => some .nils
  | .sl sz es => some (.sl sz es)
  | .rp sz es i off => some (.rp sz es i off)
  | .row id => match M id with
    | some (.row sz es ex) => if ex && !b then none else some (.sl sz es)
    | _ => none
  | .vw id off n => match M id with
    | some (.row sz es ex) => if ex && !b then none else some (.sl sz ((es.drop off).take n))
    | _ => none
  | .elt id i off => match M id with
    | some (.row sz es ex) => if ex && !b then none else some (.rp sz es i off)
    | _ => none
  | _ => none

def fz (M : Mem) (b : Bool) : Nat → D → Option D
  | 0, d => fz0 M b d
  | n + 1, .box id off => match M id with
    | some (.cells cs) => if b then (match mapO (fz M b n) cs with | some cs' => some (.rp cs.length [cs'] 0 off) | none => none) else none
    | _ => none
  | n + 1, .fn f x y => match mapO (fz M b n) x, mapO (fz M b n) y with
    | some x', some y' => some (.fn f x' y')
    | _, _ => none
  | n + 1, .agg cs => match mapO (fz M b n) cs with | some cs' => some (.agg cs') | none => none
  | n + 1, d => fz0 M b d

/-- Rows that a value bears are frozen. -/
def frz1 (np : Nat) (M : Mem) (id : Nat) : Mem :=
  match M id with
  | some (.row sz es true) => if np ≤ id then upd M id (some (.row sz es false)) else M
  | _ => M
def frz0 (np : Nat) (M : Mem) : D → Mem
  | .row id => frz1 np M id
  | .vw id _ _ => frz1 np M id
  | .elt id _ _ => frz1 np M id
  | _ => M
def frzL (np : Nat) : Mem → List D → Mem
  | M, [] => M
  | M, d :: l => frzL np (frz0 np M d) l
def frz (np : Nat) (M : Mem) : D → Mem
  | .agg cs => frzL np M cs
  | .box id _ => match M id with
    | some (.cells cs) => frzL np M cs
    | _ => M
  | d => frz0 np M d
def frzA (np : Nat) : Mem → List D → Mem
  | M, [] => M
  | M, d :: l => frzA np (frz np M d) l

def splice (cs : List D) (off : Nat) (ds : List D) : List D := cs.take off ++ ds ++ cs.drop (off + ds.length)

/-- Of a type: the cells of its zero value; how many they are; whether it is an aggregate; a slice's element type. -/
def zc (P : Program) (t : TypeId) : Option (List D) := (P.info? t).bind fun i => i.zero.map fun z => z.cells.toList.map cellD
def szT (P : Program) (t : TypeId) : Option Nat := (P.info? t).map (·.size)
def byT (P : Program) (t : TypeId) : Option Nat := (P.info? t).map (·.bytes)
def agT (P : Program) (t : TypeId) : Option Bool := (P.underlying t).map fun | .struct _ | .array _ _ => true | _ => false
def elT (P : Program) (t : TypeId) : Option TypeId := match P.underlying t with | some (.slice e) => some e | _ => none
def arT (P : Program) (t : TypeId) : Option (Nat × TypeId) := match P.underlying t with | some (.array n e) => some (n, e) | _ => none
def inT (P : Program) (t : TypeId) : Option IntKind := match P.underlying t with | some (.int k) => some k | _ => none
/-- A field: where it lies, its type. -/
def foT (P : Program) (t : TypeId) (f : Nat) : Option (Nat × TypeId) := match P.underlying t with | some (.struct fs) => (fs[f]?).map fun x => (x.offset, x.type) | _ => none

def semPick (c a b : D) (M : Mem) (nx : D → Mem → Prop) : Prop :=
  match c with
  | .v (.bool t) => (t = true → nx a M) ∧ (t = false → nx b M)
  | _ => False

def semAlloc (P : Program) (t : TypeId) (M : Mem) (fid : Nat) (nx : D → Mem → Prop) : Prop :=
  match zc P t with
  | some cs => cs.all isCell = true ∧ M fid = none ∧ nx (.box fid 0) (upd M fid (some (.cells cs)))
  | none => False

def semBox (d : D) (M : Mem) (fid : Nat) (nx : D → Mem → Prop) : Prop :=
  (cellsD d).all isCell = true ∧ M fid = none ∧ nx (.box fid 0) (upd M fid (some (.cells (cellsD d))))

def getCell (cs : List D) (off : Nat) (M : Mem) (nx : D → Mem → Prop) : Prop :=
  match cs[off]? with
  | some x => nx x M
  | none => False
def getCells (ag : Bool) (n : Nat) (cs : List D) (off : Nat) (M : Mem) (nx : D → Mem → Prop) : Prop :=
  if ag then off + n ≤ cs.length ∧ nx (.agg ((cs.drop off).take n)) M else getCell cs off M nx

def semLoad (P : Program) (t : TypeId) (p : D) (M : Mem) (nx : D → Mem → Prop) : Prop :=
  match agT P t, szT P t with
  | some ag, some n => match p with
    | .box id off => match M id with
      | some (.cells cs) => getCells ag n cs off M nx
      | _ => False
    | .elt id i off => match M id with
      | some (.row sz es _) => match es[i]? with
        | some e => getCells ag n e off M nx
        | none => False
      | _ => False
    | .rp sz es i off => match es[i]? with
      | some e => getCells ag n e off M nx
      | none => False
    | _ => False
  | _, _ => False

def semStore (P : Program) (np : Nat) (t : TypeId) (p d : D) (M : Mem) (nx : D → Mem → Prop) : Prop :=
  szT P t = some (cellsD d).length ∧ (cellsD d).all isCell = true ∧
  match p with
  | .box id off => match M id with
    | some (.cells cs) => off + (cellsD d).length ≤ cs.length ∧ nx .junk (upd M id (some (.cells (splice cs off (cellsD d)))))
    | _ => False
  | .elt id i off =>
    let M' := frz np M d
    match M' id, mapO (fz M' false 1) (cellsD d) with
    | some (.row sz es true), some ds => match es[i]? with
      | some e => off + ds.length ≤ sz ∧ nx .junk (upd M' id (some (.row sz (es.set i (splice e off ds)) true)))
      | none => False
    | _, _ => False
  | _ => False

def fillD (place : Nat → Option (Nat × Nat)) (cs : List D) : List (Nat × D) → Option (List D)
  | [] => some cs
  | (i, d) :: l => match place i with
    | some (off, n) => if (cellsD d).length = n ∧ off + n ≤ cs.length then fillD place (splice cs off (cellsD d)) l else none
    | none => none

def placeT (P : Program) (t : TypeId) (i : Nat) : Option (Nat × Nat) :=
  match foT P t i with
  | some (off, ft) => match szT P ft with
    | some n => some (off, n)
    | none => none
  | none => match arT P t with
    | some (_, e) => match szT P e with
      | some n => some (i * n, n)
      | none => none
    | none => none

def semBuild (P : Program) (t : TypeId) (parts : List (Nat × D)) (M : Mem) (nx : D → Mem → Prop) : Prop :=
  match zc P t with
  | some zs => match fillD (placeT P t) zs parts with
    | some cs => nx (.agg cs) M
    | none => False
  | none => False

def semFieldAddr (P : Program) (t : TypeId) (p : D) (f : Nat) (M : Mem) (nx : D → Mem → Prop) : Prop :=
  match foT P t f with
  | some (fo, ft) => (match szT P ft with | some (_ + 1) => True | _ => False) ∧ match p with
    | .box id off => nx (.box id (off + fo)) M
    | .elt id i off => nx (.elt id i (off + fo)) M
    | .rp sz es i off => nx (.rp sz es i (off + fo)) M
    | _ => False
  | none => False

def semField (P : Program) (t : TypeId) (d : D) (f : Nat) (M : Mem) (nx : D → Mem → Prop) : Prop :=
  match foT P t f, d with
  | some (fo, ft), .agg cs => match agT P ft, szT P ft with
    | some ag, some n => getCells ag n cs fo M nx
    | _, _ => False
  | _, _ => False

/-- A slice that can be read: size and elements. -/
def rowsOf (M : Mem) : D → Option (Nat × List (List D))
  | .nils => some (0, [])
  | .sl sz es => some (sz, es)
  | .row id => match M id with
    | some (.row sz es _) => some (sz, es)
    | _ => none
  | .vw id off n => match M id with
    | some (.row sz es _) => some (sz, (es.drop off).take n)
    | _ => none
  | _ => none

def semIndexAddr (P : Program) (t : TypeId) (x i : D) (M : Mem) (nx : D → Mem → Prop) : Prop :=
  match i with
  | .v (.int _ n) => match elT P t, arT P t with
    | some e, _ => match szT P e, x with
      | some s, .sl sz es => s = sz ∧ (0 ≤ n ∧ n < es.length) ∧ nx (.rp sz es n.toNat 0) M
      | some s, .row id => match M id with
        | some (.row sz es _) => s = sz ∧ (0 ≤ n ∧ n < es.length) ∧ nx (.elt id n.toNat 0) M
        | _ => False
      | some s, .vw id off k => match M id with
        | some (.row sz es _) => s = sz ∧ (0 ≤ n ∧ n < k) ∧ nx (.elt id (off + n.toNat) 0) M
        | _ => False
      | _, _ => False
    | none, some (len, e) => match szT P e with
      | some s => (0 ≤ n ∧ n < len) ∧ match x with
        | .box id off => nx (.box id (off + n.toNat * s)) M
        | .elt id i off => nx (.elt id i (off + n.toNat * s)) M
        | .rp sz es i off => nx (.rp sz es i (off + n.toNat * s)) M
        | _ => False
      | none => False
    | _, _ => False
  | _ => False

def semIndex (P : Program) (t : TypeId) (x i : D) (M : Mem) (nx : D → Mem → Prop) : Prop :=
  match i, x with
  | .v (.int _ n), .v (.string s) => (P.underlying t).isSome = true ∧ (match P.underlying t with | some .string => True | _ => False) ∧ (0 ≤ n ∧ n < s.size) ∧ ∀ h : n.toNat < s.size, nx (.v (.int .u8 (s[n.toNat]'h).toNat)) M
  | _, _ => False

/-- '==' of two aggregates of cells that can be compared at sight. -/
def eqCells : List D → List D → Option Bool
  | [], [] => some true
  | .v (.int k a) :: l, .v (.int k' b) :: r => if k = k' then (eqCells l r).map fun t => a == b && t else none
  | .v (.bool a) :: l, .v (.bool b) :: r => (eqCells l r).map fun t => a == b && t
  | .v (.string a) :: l, .v (.string b) :: r => (eqCells l r).map fun t => a == b && t
  | _, _ => none

def intBin (op : BinOp) (k : IntKind) (a b : Int) : Option Value :=
  match op with
  | .add => some (.int k (k.wrap (a + b)))
  | .sub => some (.int k (k.wrap (a - b)))
  | .mul => some (.int k (k.wrap (a * b)))
  | .eql => some (.bool (a == b))
  | .neq => some (.bool (a != b))
  | .lss => some (.bool (a < b))
  | .leq => some (.bool (a ≤ b))
  | .gtr => some (.bool (a > b))
  | .geq => some (.bool (a ≥ b))
  | _ => none

def retD (fid : Nat) : List RD → List D
  | [] => []
  | .d x :: l => x :: retD (fid + 1) l
  | .own _ _ :: l => .row fid :: retD (fid + 1) l
  | .nbox _ :: l => .box fid 0 :: retD (fid + 1) l
  | .omap _ :: l => .mp fid :: retD (fid + 1) l
def retM (fid : Nat) (M : Mem) : List RD → Mem
  | [] => M
  | .d _ :: l => retM (fid + 1) M l
  | .own sz es :: l => retM (fid + 1) (upd M fid (some (.row sz es true))) l
  | .nbox cs :: l => retM (fid + 1) (upd M fid (some (.cells cs))) l
  | .omap kvs :: l => retM (fid + 1) (upd M fid (some (.map kvs true))) l
def tupD : List D → D
  | [d] => d
  | l => .tup l

def argsV (M : Mem) (ds : List D) : Option (List AD) := (mapO (fz M true 4) ds).map (·.map .d)
def consAD (x : Option AD) (r : Option (List AD)) : Option (List AD) :=
  match x, r with
  | some d, some l => some (d :: l)
  | _, _ => none
def ioArg (M : Mem) (id : Nat) : Option AD :=
  match M id with
  | some (.cells cs) => (mapO (fz M false 1) cs).map .io
  | _ => none
def argsF (M : Mem) : List Bool → List D → Option (List AD)
  | _, [] => some []
  | true :: ks, .box id 0 :: l => consAD (ioArg M id) (argsF M ks l)
  | ks, d :: l => consAD ((fz M false 1 d).map .d) (argsF M ks.tail l)
def ioIds : List Bool → List D → List Nat
  | true :: ks, .box id 0 :: l => id :: ioIds ks l
  | _ :: ks, _ :: l => ioIds ks l
  | _, _ => []
def ioM (M : Mem) : List Nat → List (List D) → Mem
  | id :: l, cs :: r => ioM (upd M id (some (.cells cs))) l r
  | _, _ => M

def valE (ag : Bool) (e : List D) : D := if ag then .agg e else e.headD .junk

/-- A sort of a row that is the caller's own. -/
def semSort (K : FuncId → Option Con) (k : Nat) (ag : Bool) (x cmp : D) (M : Mem) (nx : D → Mem → Prop) : Prop :=
  match x, cmp with
  | .nils, _ => nx (.tup []) M
  | .row id, .fn g [] caps => match M id, K g with
    | some (.row sz es true), some c => sz = k ∧ 0 < k ∧ c.clean = true ∧ c.srt = none ∧ es.length < 4611686018427387904 ∧ ∃ cf : List D → List D → Int,
      ((∀ x, x ∈ es → ¬ cf x x < 0) ∧ (∀ x y z, x ∈ es → y ∈ es → z ∈ es → cf x y < 0 → cf y z < 0 → cf x z < 0) ∧ (∀ x y z, x ∈ es → y ∈ es → z ∈ es → ¬ cf x y < 0 → ¬ cf y z < 0 → ¬ cf x z < 0)) ∧
      (∀ e1 e2, e1 ∈ es → e2 ∈ es → ∃ a, argsV (upd M id none) (valE ag e1 :: valE ag e2 :: caps) = some (c.args a) ∧ c.pre a ∧ ∀ r, c.post a r → r = ⟨[.d (.v (.int .i64 (cf e1 e2)))], []⟩) ∧
      ∀ es', es'.Perm es → es'.Pairwise (fun a b => ¬ cf b a < 0) → nx (.tup []) (upd M id (some (.row sz es' true)))
    | _, _ => False
  | _, _ => False

def semCall (K : FuncId → Option Con) (np : Nat) (f : FuncId) (ds : List D) (M : Mem) (fid : Nat) (nx : D → Mem → Prop) : Prop :=
  match K f with
  | some c => match c.srt with
    | some (k, ag) => match ds with
      | [x, cmp] => semSort K k ag x cmp M nx
      | _ => False
    | none =>
    if c.clean then ∃ a, argsV M ds = some (c.args a) ∧ c.pre a ∧ ∀ r, c.post a r → (∀ j, j < r.ret.length → M (fid + j) = none) ∧ nx (tupD (retD fid r.ret)) (retM fid M r.ret)
    else (ioIds c.kinds ds).Nodup ∧ ∃ a, argsF (frzA np M ds) c.kinds ds = some (c.args a) ∧ c.pre a ∧ ∀ r, c.post a r → (∀ j, j < r.ret.length → M (fid + j) = none) ∧
      nx (tupD (retD fid r.ret)) (retM fid (ioM (frzA np M ds) (ioIds c.kinds ds) r.io) r.ret)
  | none => False

end Go.Abs
