/- The shadow machine: a computable reading of the model's code over shadows of values (what a value is made of, with addresses by number), so that the kernel can run a function on symbolic arguments. Definitions only. -/
import Derived.WalkKit
import Derived.LoopNIn
import Derived.TacticsIn
import Derived.OrdersIn
import Derived.Laws.CopyRow
import Derived.Laws.AppendOwn
import Derived.Laws.Strings
import Derived.Laws.BytesArg
import Derived.Laws.Rows
import Derived.RangeFuncNested
import Derived.ChangeKeysEq
import Derived.Lib.ConvBytes
set_option linter.unusedVariables false
set_option linter.unusedSimpArgs false
set_option linter.unusedSectionVars false
namespace Go.Sh

/-- What several cells stand for at once. -/
class Atom (A : Type) where
  cells : A → List Value
  size : A → Nat
  len : ∀ a, (cells a).length = size a
  one : ∀ a, ∀ v ∈ cells a, v.oneCell' = true
  /-- one number? -/
  int : A → Option (IntKind × Int)
  int_ok : ∀ {a k z}, int a = some (k, z) → cells a = [.int k z]
  /-- a number of a kind, wrapped round -/
  wrap : IntKind → Int → Option A
  wrap_ok : ∀ {k z a}, wrap k z = some a → cells a = [.int k (k.wrap z)]
  /-- a number shifted down -/
  shr : A → Nat → Option A
  shr_ok : ∀ {a b m k z}, shr a m = some b → int a = some (k, z) → cells b = [.int k (z.fdiv (2 ^ m))]
  /-- a row of cells, one by one -/
  parts : A → Option (List A)
  parts_ok : ∀ {a l}, parts a = some l → cells a = (l.map cells).flatten ∧ ∀ x ∈ l, size x = 1
  /-- cells as a row -/
  pack : List A → Option A
  pack_ok : ∀ {l b}, pack l = some b → cells b = (l.map cells).flatten
  /-- a row's cell -/
  get : A → Nat → Option A
  get_ok : ∀ {a i b}, get a i = some b → i < size a → ∃ v, (cells a)[i]? = some v ∧ cells b = [v]
  /-- a row with one cell written -/
  set : A → Nat → A → Option A
  set_ok : ∀ {a i b c}, set a i b = some c → i < size a → ∃ v, cells b = [v] ∧ cells c = (cells a).set i v
  /-- a row, as an atom of the kind of another one -/
  like : A → A → Option A
  like_ok : ∀ {a r b}, like a r = some b → cells b = cells r
  /-- a byte? which? -/
  isByte : A → Bool
  byte : A → UInt8
  byte_ok : ∀ {a}, isByte a = true → cells a = [.int .u8 (byte a).toNat]
  /-- any one -/
  dummy : A
  /-- a number of a kind -/
  num : IntKind → Int → Option A
  num_ok : ∀ {k z a}, num k z = some a → cells a = [.int k z]
  /-- cell j of the package's variable g -/
  glob : Nat → Nat → A := fun _ _ => dummy
  /-- a row whose first k cells are others (what must hold for that) -/
  splice : A → (Nat → A) → Nat → Option (A × Prop)
  splice_ok : ∀ {a g k b p}, splice a g k = some (b, p) → p → k ≤ size a → ∀ vs : List Value, vs.length = k → (∀ j v, vs[j]? = some v → cells (g j) = [v]) → cells b = vs ++ (cells a).drop k
  /-- a row of so many of these (which may be no literal) -/
  many : A → Nat → Option A := fun _ _ => none
  many_ok : ∀ {a n b}, many a n = some b → cells b = (List.replicate n (cells a)).flatten := by intro a n b h; simp at h
  /-- is it a row whose length may be no literal? -/
  wide : A → Bool := fun _ => false
  /-- a Bool? which? -/
  bool : A → Option Bool := fun _ => none
  bool_ok : ∀ {a b}, bool a = some b → cells a = [.bool b] := by intro a b h; simp at h
  /-- a Bool, as an atom -/
  ofB : Bool → Option A := fun _ => none
  ofB_ok : ∀ {b a}, ofB b = some a → cells a = [.bool b] := by intro b a h; simp at h

/-- A shadow of one cell, or of several (an atom). -/
inductive SV (A : Type) where
  | v (x : Value)
  | n (k : IntKind) (x : Int)
  | b (x : Bool)
  | p (i off : Nat)
  | s (i off len cap : Nat)
  | f (g : FuncId) (cap : List (Nat × Nat))
  | a (x : A)
  /-- cell z of the row of len cells at off in block i -/
  | r (i off len z : Nat)
  /-- a slice of memory that is not ours: n cells from cell i on (c with the spare ones) of what lies at a; cell j is (f j) -/
  | e (a : Option Addr) (f : Nat → A) (i n c : Nat)
  /-- the address of its cell i -/
  | q (a : Option Addr) (f : Nat → A) (i : Nat)
  /-- the yield of the loop whose record is block i -/
  | y (i : Nat)
  /-- a number that is still to be wrapped round -/
  | w (k : IntKind) (x : Int)
  /-- n elements, of sz cells each, of a slice whose cells hold for good: cell j is (f (i + j)) -/
  | kn (f : Nat → A) (i n sz : Nat)
  /-- the address of such a cell: k cells from there on are told -/
  | ka (f : Nat → A) (i k : Nat)
  /-- n elements, of sz cells each, of a slice whose cells hold for good (cell j is (f j)), and that may grow: it is the growing slice i at its turn v -/
  | gr (f : Nat → A) (i v n sz : Nat)
  /-- the address of its cell off -/
  | ga (i v off : Nat)
  /-- (a growing slice:) its turn, its number of cells -/
  | mk (v n : Nat)
  /-- a text -/
  | tx (l : List UInt8)

/-- A shadow of a value: one cell, or an aggregate's cells; or several values. -/
inductive TV (A : Type) where
  | val (agg : Bool) (l : List (SV A))
  | tup (l : List (Bool × List (SV A)))
  | any

structure Blk (A : Type) where
  cells : List (SV A)
  ty : TypeId
  ro : Bool

/-- A growing slice: its turn, its number of elements, its cells. -/
def Blk.vec {A : Type} (b : Blk A) : Option (Nat × Nat × List (SV A)) :=
  match b.cells with
  | .mk v n :: l => some (v, n, l)
  | _ => none

abbrev Mem (A : Type) := List (Option (Blk A))

/-- How a piece of code is left. -/
inductive Ex where
  | normal
  | ret
  | exit (id : Nat)

/-- The loops over functions whose yield is at hand, the innermost first: by which jump each one's rounds are over, if they are. -/
abbrev Pds := List (Option Ex)

structure St (A : Type) where
  t : List (TV A)
  m : Mem A
  rd : Nat
  vc : List Prop
  pd : Pds

/-- A loop over a function that is under way: the number of its record, what it binds, its code, its frame's slots. -/
structure Ys (A : Type) where
  ix : Nat
  ps : List Tmp
  assign : Code
  body : Code
  t : List (TV A)

/-- A call of yield: the record's number, the arguments, the round's number, the memory, the jumps: whether the loop goes on, the memory behind it, the jumps, what must hold. -/
abbrev YF (A : Type) := Nat → List (TV A) → Nat → Mem A → Pds → Option (Bool × Mem A × Pds × List Prop)

/-- The jump that is pending. -/
def Ex.code : Ex → Code
  | .normal => .skip
  | .ret => .ret
  | .exit id => .exit id

def Ex.toExit : Ex → Exit
  | .normal => .normal
  | .ret => .ret
  | .exit id => .exit id

/-- What becomes of a Bool that has just been yielded: it is kept as it is; it is taken to be b (and that must hold); it is reckoned out. -/
inductive Dec where
  | keep
  | take (b : Bool)
  | eval
  /-- (of a nil slice:) it is one that grows, with elements of type e, of sz cells each -/
  | grow (e : TypeId) (sz : Nat)
  /-- (of a number:) it is taken to be z (and that must hold) -/
  | lit (z : Int)

structure Cfg (A : Type) where
  P : Program
  gl : Nat → Option Nat
  orc : Nat → Nat → Dec
  /-- is a number's being in its bounds asked for, rather than the number wrapped round? -/
  nw : Bool := true
  call : FuncId → List (TV A) → Mem A → Option (TV A × Option (Mem A) × List Prop)
  /-- functions whose calls leave the blocks that there are as they are -/
  adds : FuncId → Bool := fun _ => false
  /-- what lies in memory that is not ours -/
  old : Addr → Option Value := fun _ => none
  /-- loops that are told: by the number of their first region: the state ahead, how it is left, the state behind -/
  lp : Nat → Option (St A × Ex × St A) := fun _ => none
  /-- the loops over functions whose yield is at hand -/
  ys : List (Ys A) := []
  yf : YF A := fun _ _ _ _ _ => none
  /-- functions that are ranged over: how one is run, where yield does what is told -/
  it : FuncId → List (Ys A) → YF A → List (TV A) → Nat → Mem A → Pds → Option (Mem A × Pds × List Prop) := fun _ _ _ _ _ _ _ => none

section
variable {A : Type} [Atom A]

def nth {α : Type} : List α → Nat → Option α
  | [], _ => none
  | x :: _, 0 => some x
  | _ :: l, n + 1 => nth l n

def setN {α : Type} : List α → Nat → α → List α
  | [], _, _ => []
  | _ :: l, 0, y => y :: l
  | x :: l, n + 1, y => x :: setN l n y

def SV.size : SV A → Nat
  | .a x => Atom.size x
  | _ => 1

def lsize : List (SV A) → Nat
  | [] => 0
  | s :: l => s.size + lsize l

def explode : SV A → List (SV A)
  | .a x =>
    match Atom.parts x with
    | some l => l.map .a
    | none => (Atom.cells x).map .v
  | s => [s]

/-- Rows, cell by cell. -/
def flat : List (SV A) → List (SV A)
  | [] => []
  | .a x :: l =>
    match Atom.parts x with
    | some r => r.map .a ++ flat l
    | none => .a x :: flat l
  | s :: l => s :: flat l

/-- A cell as an atom. -/
def atomOf : SV A → Option A
  | .a x => some x
  | .v (.int k z) => if k.wrap z = z then Atom.wrap k z else none
  | _ => none

def atomsOf : List (SV A) → Option (List A)
  | [] => some []
  | s :: l =>
    match atomOf s, atomsOf l with
    | some x, some r => some (x :: r)
    | _, _ => none

/-- Cells as one row. -/
def rowA (l : List (SV A)) : Option A :=
  match l with
  | [.a x] => some x
  | l =>
    match atomsOf l with
    | some r => Atom.pack r
    | none => none

/-- n cells from i on. -/
def extCells (f : Nat → A) (i : Nat) : Nat → List (SV A)
  | 0 => []
  | n + 1 => .a (f i) :: extCells f (i + 1) n

/-- Memory that is not ours holds what is said. -/
def Reads (old : Addr → Option Value) (a : Option Addr) (f : Nat → A) (i n : Nat) : Prop :=
  ∀ b, a = some b → ∀ j, j < n → ∃ v, old (b.add (i + j)) = some v ∧ Atom.cells (f (i + j)) = [v]

/-- The first n cells, and the rest; an atom that lies across is broken into its cells. -/
def splitC : List (SV A) → Nat → Option (List (SV A) × List (SV A))
  | l, 0 => some ([], l)
  | [], _ + 1 => none
  | s :: l, n + 1 =>
    if s.size ≤ n + 1 then
      match splitC l (n + 1 - s.size) with
      | some (x, y) => some (s :: x, y)
      | none => none
    else some ((explode s).take (n + 1), (explode s).drop (n + 1) ++ l)

/-- Cells off .. off + n. -/
def cut (l : List (SV A)) (off n : Nat) : Option (List (SV A)) :=
  match splitC l off with
  | some (_, r) =>
    match splitC r n with
    | some (x, _) => some x
    | none => none
  | none => none

/-- Cells off .. off + size of x, written over. -/
def over (l : List (SV A)) (off : Nat) (x : List (SV A)) : Option (List (SV A)) :=
  match splitC l off with
  | some (h, r) =>
    match splitC r (lsize x) with
    | some (_, r') => some (h ++ (x ++ r'))
    | none => none
  | none => none

def undefT : TV A := .tup []

/-- A growing slice, as one whose cells hold for good. -/
def asKn : TV A → TV A
  | .val false [.gr f _ _ n sz] => .val false [.kn f 0 n sz]
  | x => x

def isAggB (P : Program) (t : TypeId) : Option Bool :=
  match P.underlying t with
  | some (.struct _) | some (.array _ _) => some true
  | some _ => some false
  | none => none

def sizeT (P : Program) (t : TypeId) : Option Nat :=
  match P.info? t with
  | some i => some i.size
  | none => none

def zeroT (P : Program) (t : TypeId) : Option (List (SV A)) :=
  match P.info? t with
  | some i =>
    match i.zero with
    | some v => if v.cells.toList.all (·.oneCell') then some (v.cells.toList.map .v) else none
    | none => none
  | none => none

/-- A part of an aggregate, as a value of type t. -/
def partV (P : Program) (t : TypeId) (l : List (SV A)) (off : Nat) : Option (TV A) :=
  match isAggB P t, sizeT P t with
  | some true, some n =>
    match cut l off n with
    | some x => some (.val true x)
    | none => none
  | some false, some _ =>
    match cut l off 1 with
    | some x => some (.val false x)
    | none => none
  | _, _ => none

def ofConst (v : Value) : Option (TV A) :=
  match v with
  | .agg cs => if cs.toList.all (·.oneCell') then some (.val true (cs.toList.map .v)) else none
  | .tuple _ => none
  | v => some (.val false [.v v])

def evO (c : Cfg A) (st : St A) : Operand → Option (TV A)
  | .tmp t => nth st.t t
  | .const v => ofConst v
  | .global g =>
    match c.gl g with
    | some i => some (.val false [.p i 0])
    | none => some (.val false [.q (some ⟨g, 0, none⟩) (Atom.glob g) 0])
  | .func f => some (.val false [.f f []])

def evK (c : Cfg A) (st : St A) (x : Operand) : Option (TV A) :=
  match evO c st x with
  | some v => some (asKn v)
  | none => none

/-- A Bool that is known. -/
def boolOf (tv : TV A) : Option Bool :=
  match tv with
  | .val false [.v (.bool b)] => some b
  | _ => none

/-- A Bool that has just been yielded, decided by the oracle: what must hold. -/
def decT (c : Cfg A) (rd : Nat) (d : Option Tmp) (v : TV A) : TV A × List Prop :=
  match d with
  | some d =>
    match v with
    | .val false [.b x] =>
      match c.orc rd d with
      | .take l => (.val false [.v (.bool l)], [x = l])
      | .eval => (.val false [.v (.bool (match x with | true => true | false => false))], [])
      | .keep => (v, [])
      | .grow _ _ => (v, [])
      | .lit _ => (v, [])
    | .val false [.w k x] =>
      match c.orc rd d with
      | .lit z => (.val false [.v (.int k z)], [k.wrap x = z])
      | _ => (match c.nw with | true => (.val false [.n k x], [k.wrap x = x]) | false => (.val false [.n k (k.wrap x)], []))
    | .val false [.n k x] =>
      match c.orc rd d with
      | .lit z => (.val false [.v (.int k z)], [x = z])
      | _ => (v, [])
    | .val false [.a y] =>
      match Atom.bool y with
      | some x =>
        match c.orc rd d with
        | .take l => (.val false [.v (.bool l)], [x = l])
        | _ => (.val false [.b x], [])
      | none => (v, [])
    | _ => (v, [])
  | none => (v, [])

/-- A number that is known. -/
def litOf : TV A → Option Int
  | .val false [.v (.int _ x)] => some x
  | _ => none

def natOf (x : Int) : Option Nat :=
  match x with
  | .ofNat n => some n
  | .negSucc _ => none

def intOfSV : SV A → Option (Bool × IntKind × Int)
  | .v (.int k x) => some (true, k, x)
  | .n k x => some (false, k, x)
  | .a x =>
    match Atom.int x with
    | some (k, z) => some (false, k, z)
    | none => none
  | _ => none

/-- The number, wrapped round. -/
def mkW (lit : Bool) (k : IntKind) (x : Int) : SV A :=
  if lit then .v (.int k (k.wrap x))
  else
    match Atom.wrap k x with
    | some y => .a y
    | none => .w k x
def mkB (lit : Bool) (x : Bool) : SV A := if lit then .v (.bool x) else .b x

def boolSV : SV A → Option (Bool × Bool)
  | .v (.bool x) => some (true, x)
  | .b x => some (false, x)
  | _ => none

/-- A text. -/
def txOf : SV A → Option (List UInt8)
  | .tx l => some l
  | .v (.string s) => some s.data.toList
  | _ => none

/-- A function: is it nil? -/
def fnOf : SV A → Option Bool
  | .v .nilFunc => some true
  | .f _ _ => some false
  | _ => none

/-- What is wrapped round in the end. -/
def arith : BinOp → IntKind → Int → Int → Option Int
  | .add, _, x, y => some (x + y)
  | .sub, _, x, y => some (x - y)
  | .mul, _, x, y => some (x * y)
  | .and, k, x, y => some (BitVec.ofInt k.bits x &&& BitVec.ofInt k.bits y).toNat
  | .or, k, x, y => some (BitVec.ofInt k.bits x ||| BitVec.ofInt k.bits y).toNat
  | .xor, k, x, y => some (BitVec.ofInt k.bits x ^^^ BitVec.ofInt k.bits y).toNat
  | .andNot, k, x, y => some (BitVec.ofInt k.bits x &&& ~~~BitVec.ofInt k.bits y).toNat
  | _, _, _, _ => none

def compare : BinOp → Int → Int → Option Bool
  | .eql, x, y => some (x == y)
  | .neq, x, y => some (x != y)
  | .lss, x, y => some (decide (x < y))
  | .leq, x, y => some (decide (x ≤ y))
  | .gtr, x, y => some (decide (x > y))
  | .geq, x, y => some (decide (x ≥ y))
  | _, _, _ => none

/-- Are two rows of numbers the same? (Whether that is known; whether it is so.) -/
def eqRows : List (SV A) → List (SV A) → Option (Bool × Bool)
  | [], [] => some (true, true)
  | x :: l, y :: r =>
    match intOfSV x, intOfSV y, eqRows l r with
    | some (lx, kx, a), some (ly, ky, b), some (lit, e) => if kx = ky then some (lx && ly && lit, (a == b) && e) else none
    | _, _, _ => none
  | _, _ => none

/-- The fields' cells, in order and without gaps. -/
def flatFs (P : Program) (f : TypeId → Option Nat) : Nat → List Field → Option Nat
  | off, [] => some off
  | off, x :: l =>
    match f x.type with
    | some m => if x.offset = off then (if x.name = "_" then none else flatFs P f (off + m) l) else none
    | none => none

/-- How many cells has a type that is made of whole numbers alone? -/
def flatI (P : Program) : Nat → TypeId → Option Nat
  | 0, _ => none
  | n + 1, t =>
    match P.underlying t, sizeT P t with
    | some (.int _), some 1 => some 1
    | some (.array k e), some s =>
      match flatI P n e with
      | some m => if k * m = s then some s else none
      | none => none
    | some (.struct fs), some s => if P.stoodInHeld t then none else (if flatFs P (flatI P n) 0 fs.toList = some s then some s else none)
    | _, _ => none

/-- A number shifted: s is its shadow. -/
def shiftK (op : BinOp) (s : SV A) (lit : Bool) (k : IntKind) (x : Int) (ly : Bool) (m : Nat) : Option (SV A) :=
  match op with
  | .shl => some (mkW (lit && ly) k (x * 2 ^ min m k.bits))
  | .shr =>
    match s with
    | .v _ => some (if ly then .v (.int k (x.fdiv (2 ^ min m k.bits))) else .n k (x.fdiv (2 ^ min m k.bits)))
    | .a z =>
      match Atom.shr z (min m k.bits) with
      | some z' => some (.a z')
      | none => some (.n k (x.fdiv (2 ^ min m k.bits)))
    | _ => some (.n k (x.fdiv (2 ^ min m k.bits)))
  | _ => none

def binV (P : Program) (op : BinOp) (t : TypeId) : TV A → TV A → Option (TV A)
  | .val false [x], .val false [y] =>
    match intOfSV x, intOfSV y with
    | some (lx, kx, a), some (ly, ky, b) =>
      match op with
      | .shl | .shr => none
      | _ =>
        if kx = ky then
          match arith op kx a b with
          | some r => some (.val false [mkW (lx && ly) kx r])
          | none =>
            match compare op a b with
            | some r => some (.val false [mkB (lx && ly) r])
            | none => none
        else none
    | _, _ =>
      match txOf x, txOf y with
      | some a, some b =>
        match op with
        | .eql => some (.val false [.b (a == b)])
        | .neq => some (.val false [.b (!(a == b))])
        | _ => none
      | _, _ =>
        match boolSV x, boolSV y, P.underlying t with
        | some (lx, a), some (ly, b), some .bool =>
          match op with
          | .eql => some (.val false [mkB (lx && ly) (a == b)])
          | .neq => some (.val false [mkB (lx && ly) (!(a == b))])
          | _ => none
        | _, _, some (.func _ _ _) =>
          match fnOf x, fnOf y with
          | some a, some b =>
            match a || b, op with
            | true, .eql => some (.val false [.v (.bool (a && b))])
            | true, .neq => some (.val false [.v (.bool (!(a && b)))])
            | _, _ => none
          | _, _ => none
        | _, _, _ => none
  | .val true l, .val true r =>
    match op, isAggB P t, flatI P 6 t, eqRows (flat l) (flat r) with
    | .eql, some true, some n, some (lit, q) => if (flat l).length = n then some (.val false [mkB lit q]) else none
    | .neq, some true, some n, some (lit, q) => if (flat l).length = n then some (.val false [mkB lit !q]) else none
    | _, _, _, _ => none
  | _, _ => none

def isShift : BinOp → Bool
  | .shl | .shr => true
  | _ => false

/-- A quotient or a remainder: what must hold is that the divisor isn't 0 (and that the remainder is of the kind). -/
def divV (op : BinOp) : TV A → TV A → Option (TV A × List Prop)
  | .val false [x], .val false [y] =>
    match intOfSV x, intOfSV y with
    | some (lx, kx, a), some (ly, ky, b) =>
      if isShift op then
        if ly then
          match natOf b with
          | some m => (match shiftK op x lx kx a true m with | some r => some (.val false [r], []) | none => none)
          | none => none
        else (match shiftK op x lx kx a false b.toNat with | some r => some (.val false [r], [0 ≤ b]) | none => none)
      else if kx = ky then
        match op with
        | .quo => if ly then (if b = 0 then none else some (.val false [mkW lx kx (a.tdiv b)], [])) else some (.val false [mkW false kx (a.tdiv b)], [b ≠ 0])
        | .rem =>
          if lx && ly then (if b = 0 then none else some (.val false [.v (.int kx (a.tmod b))], []))
          else
            match Atom.wrap kx (a.tmod b) with
            | some y => some (.val false [.a y], [b ≠ 0 ∧ kx.wrap (a.tmod b) = a.tmod b])
            | none => if ly then (if b = 0 then none else some (.val false [.n kx (a.tmod b)], [])) else some (.val false [.n kx (a.tmod b)], [b ≠ 0])
        | _ => none
      else none
    | _, _ => none
  | _, _ => none

def isDiv : BinOp → Bool
  | .quo | .rem | .shl | .shr => true
  | _ => false

/-- The greater, the lesser, of two numbers. -/
def extV (mx : Bool) : List (TV A) → Option (TV A)
  | [.val false [x], .val false [y]] =>
    match intOfSV x, intOfSV y with
    | some (lx, kx, a), some (ly, _, b) => some (.val false [if lx && ly then .v (.int kx (if (if mx then b > a else b < a) then b else a)) else .n kx (if (if mx then b > a else b < a) then b else a)])
    | _, _ => none
  | _ => none

def unV (op : UnOp) : TV A → Option (TV A)
  | .val false [.v (.bool b)] => match op with | .not => some (.val false [.v (.bool !b)]) | _ => none
  | .val false [.b b] => match op with | .not => some (.val false [.b !b]) | _ => none
  | .val false [x] =>
    match intOfSV x with
    | some (l, k, a) =>
      match op with
      | .neg => some (.val false [mkW l k (0 - a)])
      | .xor => some (.val false [mkW l k (BitVec.ofInt k.bits (if k.signed then -1 else k.max) ^^^ BitVec.ofInt k.bits a).toNat])
      | _ => none
    | none => none
  | _ => none

def placesOf (P : Program) (fs : List Field) : Option (List (Nat × Nat)) :=
  match fs with
  | [] => some []
  | f :: r =>
    match sizeT P f.type, placesOf P r with
    | some n, some l => some ((f.offset, n) :: l)
    | _, _ => none

def cellsT : TV A → Option (List (SV A))
  | .val _ l => some l
  | _ => none

/-- The cells of an aggregate, with parts laid over. -/
def fillV (place : Nat → Option (Nat × Nat)) (c : Cfg A) (st : St A) : List (SV A) → List (Nat × Operand) → Option (List (SV A))
  | cells, [] => some cells
  | cells, (i, x) :: rest =>
    match place i, evO c st x with
    | some (off, size), some tv =>
      match cellsT tv with
      | some l =>
        if lsize l = size then
          match over cells off l with
          | some cells' => fillV place c st cells' rest
          | none => none
        else none
      | none => none
    | _, _ => none

def evL (c : Cfg A) (st : St A) : List Operand → Option (List (TV A))
  | [] => some []
  | x :: r =>
    match evO c st x, evL c st r with
    | some v, some l => some (v :: l)
    | _, _ => none

def addrOf : TV A → Option (Nat × Nat)
  | .val false [.p i off] => some (i, off)
  | _ => none

def capsOf : List (TV A) → Option (List (Nat × Nat))
  | [] => some []
  | tv :: r =>
    match addrOf tv, capsOf r with
    | some a, some l => some (a :: l)
    | _, _ => none

/-- A bound of a slice: at most y; where none is told: d. -/
def bndO (c : Cfg A) (st : St A) (y d : Nat) : Option Operand → Option Nat
  | none => some d
  | some x =>
    match evO c st x with
    | some tv =>
      match litOf tv with
      | some z =>
        match natOf z with
        | some k => if k ≤ y then some k else none
        | none => none
      | none => none
    | none => none

def sliceV (c : Cfg A) (st : St A) (i off len cap : Nat) (e : TypeId) (lo hi mx : Option Operand) : Option (TV A × List Prop) :=
  if mx.isSome && hi.isNone then none
  else
    match bndO c st cap cap mx, sizeT c.P e with
    | some m, some sz =>
      match bndO c st m len hi with
      | some h =>
        match bndO c st h 0 lo with
        | some l => some (.val false [.s i (if m = l then off else off + l * sz) (h - l) (m - l)], [])
        | none => none
      | none => none
    | _, _ => none

/-- A number, literal or not. -/
def numOf : TV A → Option (Bool × Int)
  | .val false [s] =>
    match intOfSV s with
    | some (l, _, z) => some (l, z)
    | none => none
  | _ => none

/-- k elements of so many cells. -/
def timesN (k : Nat) : Nat → Nat
  | 1 => k
  | s => k * s
omit [Atom A] in
theorem timesN_eq (k s : Nat) : timesN k s = k * s := by
  unfold timesN
  split
  · omega
  · rfl

/-- Where a part of a slice begins. -/
def startN (lo : Option Operand) (i l sz : Nat) : Nat :=
  match lo with
  | none => i
  | some _ => timesN l sz + i

/-- The address of an element. -/
def indexAddrV (P : Program) (t : TypeId) (xv iv : TV A) : Option (TV A × List Prop) :=
  match numOf iv with
  | some (lit, z) =>
    match P.underlying t, xv with
    | some (.array n e), .val false [.p i off] =>
      match sizeT P e with
      | some sz =>
        if lit then
          match natOf z with
          | some k => if k < n then some (.val false [.p i (off + k * sz)], []) else none
          | none => none
        else if sz = 1 then some (.val false [.r i off n z.toNat], [0 ≤ z ∧ z < n]) else none
      | none => none
    | some (.slice e), .val false [.s i off n _] =>
      match sizeT P e with
      | some sz =>
        if lit then
          match natOf z with
          | some k => if k < n then some (.val false [.p i (off + k * sz)], []) else none
          | none => none
        else if sz = 1 then some (.val false [.r i off n z.toNat], [0 ≤ z ∧ z < n]) else none
      | none => none
    | some (.slice e), .val false [.e a f i n _] =>
      match sizeT P e with
      | some sz => some (.val false [.q a f (timesN z.toNat sz + i)], [0 ≤ z ∧ z < n])
      | none => none
    | some (.slice e), .val false [.kn f i n sz'] =>
      match sizeT P e with
      | some sz => if sz = sz' then some (.val false [.ka f (timesN z.toNat sz + i) sz], [0 ≤ z ∧ z < n]) else none
      | none => none
    | some (.array n e), .val false [.q (some a) f i] =>
      match sizeT P e with
      | some sz => some (.val false [.q (some a) f (timesN z.toNat sz + i)], [0 ≤ z ∧ z < n])
      | none => none
    | _, _ => none
  | none => none

/-- Cell z of a row. -/
def rowGet (l : List (SV A)) (n z : Nat) : Option (SV A) :=
  match rowA l with
  | some row =>
    if Atom.size row = n then
      match Atom.get row z with
      | some y => some (.a y)
      | none => none
    else none
  | none => none

/-- An element of an array; a byte of a text. -/
def indexV (P : Program) (t : TypeId) (xv iv : TV A) : Option (TV A × List Prop) :=
  match numOf iv with
  | some (lit, z) =>
    match P.underlying t, xv with
    | some (.array n e), .val true l =>
      match sizeT P e with
      | some sz =>
        if lit then
          match natOf z with
          | some k =>
            if k < n then
              match partV P e l (k * sz) with
              | some v => some (v, [])
              | none => none
            else none
          | none => none
        else
          match isAggB P e, rowGet l n z.toNat with
          | some false, some y => if sz = 1 then some (.val false [y], [0 ≤ z ∧ z < n]) else none
          | _, _ => none
      | none => none
    | some .string, .val false [.v (.string s)] =>
      if lit then
        match natOf z with
        | some k =>
          match nth s.data.toList k with
          | some b => some (.val false [.v (.int .u8 b.toNat)], [])
          | none => none
        | none => none
      else
        match Atom.wrap (A := A) .u8 ((s.data.toList.getD z.toNat 0).toNat : Int) with
        | some b => some (.val false [.a b], [0 ≤ z ∧ z < s.data.toList.length])
        | none => none
    | _, _ => none
  | none => none

/-- A block that is one row, whose length may be no literal. -/
def wideOf : List (SV A) → Nat → Option A
  | [.a x], 0 => (match Atom.wide x with | true => some x | false => none)
  | _, _ => none
/-- What a new slice of so many noughts asks. -/
def Makes (bytes : Nat) (x y : Int) : Prop := x = y ∧ 0 ≤ x ∧ x ≤ 9223372036854775807 ∧ (bytes : Int) * x ≤ 281474976710656
/-- What lies at an address. -/
def loadV (c : Cfg A) (m : Mem A) (t : TypeId) (xv : TV A) : Option (TV A × List Prop) :=
  match xv with
  | .val false [.p i off] =>
    match nth m i with
    | some (some blk) =>
      match partV c.P t blk.cells off with
      | some v => some (v, [])
      | none => none
    | _ => none
  | .val false [.r i off n z] =>
    match nth m i with
    | some (some blk) =>
      match wideOf blk.cells off with
      | some x =>
        match isAggB c.P t, sizeT c.P t, Atom.get x z with
        | some false, some 1, some y => some (.val false [.a y], [Atom.size x = n])
        | _, _, _ => none
      | none =>
      match isAggB c.P t, sizeT c.P t, cut blk.cells off n with
      | some false, some 1, some l =>
        match rowGet l n z with
        | some y => some (.val false [y], [])
        | none => none
      | _, _, _ => none
    | _ => none
  | .val false [.q a f i] =>
    match isAggB c.P t, sizeT c.P t with
    | some true, some n => some (.val true (extCells f i n), [Reads c.old a f i n])
    | some false, some 1 => some (.val false [.a (f i)], [Reads c.old a f i 1])
    | _, _ => none
  | .val false [.ka f i k] =>
    match isAggB c.P t, sizeT c.P t with
    | some true, some n => if n ≤ k then some (.val true (extCells f i n), []) else none
    | some false, some 1 => if 1 ≤ k then some (.val false [.a (f i)], []) else none
    | _, _ => none
  | _ => none

/-- A bound of a slice of memory that is not ours. -/
def bndE (c : Cfg A) (st : St A) (y d : Nat) : Option Operand → Option (Nat × List Prop)
  | none => some (d, [])
  | some x =>
    match evO c st x with
    | some tv =>
      match numOf tv with
      | some (_, z) => some (z.toNat, [0 ≤ z ∧ z ≤ y])
      | none => none
    | none => none

def sliceE (c : Cfg A) (st : St A) (a : Option Addr) (f : Nat → A) (i len cap : Nat) (e : TypeId) (lo hi mx : Option Operand) : Option (TV A × List Prop) :=
  if mx.isSome && hi.isNone then none
  else
    match bndE c st cap cap mx, sizeT c.P e with
    | some (m, v1), some sz =>
      match bndE c st m len hi with
      | some (h, v2) =>
        match bndE c st h 0 lo with
        | some (l, v3) => some (.val false [.e a f (startN lo i l sz) (h - l) (m - l)], v3 ++ (v2 ++ v1))
        | none => none
      | none => none
    | _, _ => none

/-- The bounds of a part that lies within the first len elements. -/
def boundsH (c : Cfg A) (st : St A) (len : Nat) (lo hi mx : Option Operand) : Option (Nat × Nat × List Prop) :=
  if mx.isSome && hi.isNone then none
  else
    match bndE c st len len mx with
    | some (m, v1) =>
      match bndE c st m len hi with
      | some (h, v2) =>
        match bndE c st h 0 lo with
        | some (l, v3) => some (l, h, v3 ++ (v2 ++ v1))
        | none => none
      | none => none
    | none => none

/-- How long is it? -/
def lenV (P : Program) (t : TypeId) (xv : TV A) : Option (TV A) :=
  match P.underlying t, xv with
  | some (.slice _), .val false [.s _ _ n _] => some (.val false [.v (.int .i64 n)])
  | some (.slice _), .val false [.v (.slice none n _)] => some (.val false [.v (.int .i64 n)])
  | some (.slice _), .val false [.e _ _ _ n _] => some (.val false [.n .i64 n])
  | some (.slice _), .val false [.kn _ _ n _] => some (.val false [.n .i64 n])
  | some .string, .val false [.v (.string s)] => some (.val false [.v (.int .i64 s.size)])
  | _, _ => none

/-- A cell as an atom. -/
def litA : SV A → Option A
  | .a x => if Atom.size x = 1 then some x else none
  | .v (.int k z) =>
    match Atom.wrap (A := A) k z with
    | some x => if k.wrap z = z then some x else none
    | none => Atom.num k z
  | .n k z => Atom.num k z
  | .b x => Atom.ofB x
  | .v (.bool x) => Atom.ofB x
  | _ => none
def litsA : List (SV A) → Option (List A)
  | [] => some []
  | s :: l =>
    match litA s, litsA l with
    | some x, some r => some (x :: r)
    | _, _ => none

/-- A slice's elements, of sz cells each: cell by cell, from where on, how many, what must hold. -/
def srcV (c : Cfg A) (m : Mem A) (sz : Nat) (xv : TV A) : Option ((Nat → A) × Nat × Nat × List Prop) :=
  match asKn xv with
  | .val false [.e a f i n _] => some (f, i, n, [Reads c.old a f i (timesN n sz)])
  | .val false [.kn f i n sz'] => if sz = sz' then some (f, i, n, []) else none
  | .val false [.s i off n _] =>
    match nth m i with
    | some (some blk) =>
      match wideOf blk.cells off with
      | some x => some (fun j => (Atom.get x j).getD Atom.dummy, 0, n, [timesN n sz = Atom.size x, ∀ j, j < Atom.size x → (Atom.get x j).isSome = true])
      | none =>
      match cut blk.cells off (timesN n sz) with
      | some l =>
        match litsA (flat l) with
        | some (x :: r) => if (x :: r).length = timesN n sz then some (fun j => ((x :: r)[j]?).getD x, 0, n, []) else none
        | _ => none
      | none => none
    | _ => none
  | .val false [.v (.slice none 0 0)] => some (fun _ => Atom.dummy, 0, 0, [])
  | _ => none

/-- k cells, and others behind them. -/
def catF (f : Nat → A) (k : Nat) (g : Nat → A) (i : Nat) : Nat → A := fun j => match Nat.blt j k with | true => f j | false => g (i + (j - k))

/-- So many elements fit. -/
def Bears (n bytes : Nat) : Prop := n * bytes ≤ 140737488355328 ∧ n ≤ maxLen

/-- Elements behind a slice that has no room: the cells are new ones. -/
def appendK (c : Cfg A) (m : Mem A) (sz bytes : Nat) (xv yv : TV A) : Option (TV A × List Prop) :=
  match srcV c m sz yv with
  | some (g, j, n, vc) =>
    match xv with
    | .val false [.v (.slice none 0 0)] => some (.val false [.kn g j n sz], Bears n bytes :: vc)
    | .val false [.s i off k cp] =>
      match nth m i with
      | some (some blk) =>
        match cut blk.cells off (timesN k sz) with
        | some l =>
          match litsA (flat l) with
          | some (x :: r) => if (x :: r).length = timesN k sz ∧ k = cp then some (.val false [.kn (catF (fun q => ((x :: r)[q]?).getD x) (timesN k sz) g j) 0 (k + n) sz], (0 < n ∧ Bears (k + n) bytes) :: vc) else none
          | _ => none
        | none => none
      | _ => none
    | _ => none
  | none => none

/-- So many noughts of a type of one cell: the cell, the row, an element's bytes. -/
def makeW (P : Program) (e : TypeId) (n : Nat) : Option (A × A × Nat) :=
  match P.info? e, sizeT P e, zeroT (A := A) P e with
  | some i, some 1, some [z] =>
    match litA z with
    | some a => (match Atom.many a n with | some row => some (a, row, i.bytes) | none => none)
    | none => none
  | _, _, _ => none
/-- An operation that yields a value, and leaves the memory as it is (but for a new slice, whose cells hold for good). -/
def opV (c : Cfg A) (st : St A) (op : Op) : Option (TV A × List Prop) :=
  match op with
  | .move x | .assign x =>
    match evO c st x with
    | some v => some (v, [])
    | none => none
  | .pick q x y =>
    match evO c st q with
    | some qv =>
      match boolOf qv with
      | some b =>
        match evO c st (if b then x else y) with
        | some v => some (v, [])
        | none => none
      | none => none
    | none => none
  | .fieldAddr t x f =>
    match evO c st x with
    | some xv =>
      match addrOf xv, c.P.underlying t with
      | some (i, off), some (.struct fs) =>
        match fs[f]? with
        | some fd =>
          match sizeT c.P fd.type with
          | some (_ + 1) => some (.val false [.p i (off + fd.offset)], [])
          | _ => none
        | none => none
      | none, some (.struct fs) =>
        match xv, fs[f]? with
        | .val false [.q (some a) g i], some fd =>
          match sizeT c.P fd.type with
          | some (_ + 1) => some (.val false [.q (some a) g (i + fd.offset)], [])
          | _ => none
        | _, _ => none
      | _, _ => none
    | none => none
  | .nilCheck x =>
    match evO c st x with
    | some (.val false [.p i o]) => some (.val false [.p i o], [])
    | some (.val false [.q a f i]) => some (.val false [.q a f i], [])
    | _ => none
  | .field t x f =>
    match evO c st x, c.P.underlying t with
    | some (.val true l), some (.struct fs) =>
      match fs[f]? with
      | some fd =>
        match partV c.P fd.type l fd.offset with
        | some v => some (v, [])
        | none => none
      | none => none
    | _, _ => none
  | .indexAddr t x ix =>
    match evK c st x, evO c st ix with
    | some xv, some iv => indexAddrV c.P t xv iv
    | _, _ => none
  | .index t x ix =>
    match evO c st x, evO c st ix with
    | some xv, some iv => indexV c.P t xv iv
    | _, _ => none
  | .load t x =>
    match evO c st x with
    | some xv => loadV c st.m t xv
    | none => none
  | .extract x i =>
    match evO c st x with
    | some (.tup l) =>
      match nth l i with
      | some (g, cs) => some (.val g cs, [])
      | none => none
    | _ => none
  | .binOp op t x y _ =>
    match evO c st x, evO c st y with
    | some xv, some yv =>
      if isDiv op then divV op xv yv
      else
        match binV c.P op t xv yv with
        | some v => some (v, [])
        | none => none
    | _, _ => none
  | .unOp op _ x =>
    match evO c st x with
    | some xv =>
      match unV op xv with
      | some v => some (v, [])
      | none => none
    | none => none
  | .convert src dst x =>
    match evO c st x, c.P.underlying src, c.P.underlying dst with
    | some (.val false [s]), some _, some (.int k) =>
      match intOfSV s with
      | some (l, _, a) => some (.val false [mkW l k a], [])
      | none => none
    | some (.val false [.v (.string s)]), some .string, some (.slice e) =>
      match c.P.underlying e with
      | some (.int .u8) =>
        match litsA (A := A) (s.data.toList.map fun b => .v (.int .u8 b.toNat)) with
        | some (x :: l) => if (x :: l).length = s.size then some (.val false [.kn (fun j => ((x :: l)[j]?).getD x) 0 s.size 1], []) else none
        | _ => none
      | _ => none
    | some xv, some (.slice e), some .string =>
      match c.P.underlying e with
      | some (.int .u8) =>
        match srcV c [] 1 xv with
        | some (g, j, n, vc) => some (.val false [.tx ((List.range n).map fun q => Atom.byte (g (j + q)))], (∀ q, q < n → Atom.isByte (g (j + q)) = true) :: vc)
        | none => none
      | _ => none
    | _, _, _ => none
  | .build t parts =>
    match zeroT c.P t, c.P.underlying t with
    | some cells, some (.struct fs) =>
      match placesOf c.P fs.toList with
      | some ps =>
        match fillV (fun i => nth ps i) c st cells parts.toList with
        | some l => some (.val true l, [])
        | none => none
      | none => none
    | some cells, some (.array _ e) =>
      match sizeT c.P e with
      | some sz =>
        match fillV (fun i => some (i * sz, sz)) c st cells parts.toList with
        | some l => some (.val true l, [])
        | none => none
      | none => none
    | _, _ => none
  | .slice t x lo hi mx =>
    match evK c st x, c.P.underlying t with
    | some (.val false [.p i off]), some (.array n e) => sliceV c st i off n n e lo hi mx
    | some (.val false [.s i off n cp]), some (.slice e) => sliceV c st i off n cp e lo hi mx
    | some (.val false [.e a f i n cp]), some (.slice e) => sliceE c st a f i n cp e lo hi mx
    | some (.val false [.kn f i n sz']), some (.slice e) =>
      match sizeT c.P e, boundsH c st n lo hi mx with
      | some sz, some (l, h, vc) => if sz = sz' then some (.val false [.kn f (startN lo i l sz) (h - l) sz], vc) else none
      | _, _ => none
    | some (.val false [.q (some ad) f i]), some (.array n e) => sliceE c st (some ad) f i n n e lo hi mx
    | _, _ => none
  | .sliceToArrayPointer arr x =>
    match evK c st x, c.P.underlying arr with
    | some (.val false [.s i off n _]), some (.array k _) => if k ≤ n then some (.val false [.p i off], []) else none
    | some (.val false [.e a f i n _]), some (.array (k + 1) _) => some (.val false [.q a f i], [k + 1 ≤ n])
    | some (.val false [.kn f i n sz]), some (.array (k + 1) e) =>
      match sizeT c.P e with
      | some sz' => if sz = sz' then some (.val false [.ka f i (timesN (k + 1) sz)], [k + 1 ≤ n]) else none
      | none => none
    | _, _ => none
  | .makeFunc (.func g) first captured =>
    match evL c st captured.toList with
    | some l =>
      match capsOf l with
      | some cs => if first.isEmpty then some (.val false [.f g cs], []) else none
      | none => none
    | none => none
  | .call { callee := .value (.func g), args, argTypes := _ } =>
    match evL c st args.toList with
    | some l =>
      match c.call g l st.m with
      | some (v, none, vc) => some (v, vc)
      | _ => none
    | none => none
  | .call { callee := .builtin .len, args, argTypes } =>
    match evL c st args.toList, argTypes[0]? with
    | some [xv], some t =>
      match lenV c.P t (asKn xv) with
      | some v => some (v, [])
      | none => none
    | _, _ => none
  | .call { callee := .builtin .append, args, argTypes } =>
    match evL c st args.toList, argTypes.toList with
    | some [xv, yv], [t, t'] =>
      if t = t' then
        match c.P.underlying t with
        | some (.slice e) =>
          match c.P.info? e, sizeT c.P e, zeroT (A := A) c.P e with
          | some i, some (sz + 1), some z => if z.length = sz + 1 then appendK c st.m (sz + 1) i.bytes xv yv else none
          | _, _, _ => none
        | _ => none
      else none
    | _, _ => none
  | .call { callee := .builtin .max, args, argTypes := _ } =>
    match evL c st args.toList with
    | some l =>
      match extV true l with
      | some v => some (v, [])
      | none => none
    | none => none
  | .call { callee := .builtin .min, args, argTypes := _ } =>
    match evL c st args.toList with
    | some l =>
      match extV false l with
      | some v => some (v, [])
      | none => none
    | none => none
  | .makeSlice t x y =>
    match c.P.underlying t, evO c st x, evO c st y with
    | some (.slice e), some (.val false [.v (.int _ (.ofNat n))]), some (.val false [.v (.int _ (.ofNat k))]) =>
      match c.P.info? e, sizeT c.P e, zeroT (A := A) c.P e with
      | some i, some (sz + 1), some z =>
        if n = k ∧ n * (sz + 1) ≤ 4096 ∧ i.bytes * n ≤ 65536 then
          if z.length = sz + 1 then
            match litsA (flat (List.replicate n z).flatten) with
            | some (x :: l) => if (x :: l).length = n * (sz + 1) then some (.val false [.kn (fun j => ((x :: l)[j]?).getD x) 0 n (sz + 1)], []) else none
            | _ => none
          else none
        else none
      | _, _, _ => none
    | some (.slice e), some (.val false [.n _ u]), some (.val false [.n _ v]) =>
      match makeW (A := A) c.P e u.toNat with
      | some (a, row, bytes) => some (.val false [.kn (fun _ => a) 0 u.toNat 1], [Makes bytes u v])
      | none => none
    | _, _, _ => none
  | .buildSlice t len parts =>
    match c.P.underlying t with
    | some (.slice e) =>
      match sizeT c.P e, zeroT (A := A) c.P e with
      | some (sz + 1), some z =>
        if len * (sz + 1) ≤ 4096 then
          if z.length = sz + 1 then
            match fillV (fun i => some (i * (sz + 1), sz + 1)) c st (List.replicate len z).flatten parts.toList with
            | some cells =>
              match litsA (flat cells) with
              | some (x :: l) => if (x :: l).length = len * (sz + 1) then some (.val false [.kn (fun j => ((x :: l)[j]?).getD x) 0 len (sz + 1)], []) else none
              | _ => none
            | none => none
          else none
        else none
      | _, _ => none
    | _ => none
  | _ => none

def putT (st : St A) (d : Option Tmp) (v : TV A) : St A :=
  match d with
  | some d => { st with t := setN st.t d v }
  | none => st

/-- Memory with a value written. -/
def storeV (P : Program) (m : Mem A) (t : TypeId) (xv yv : TV A) : Option (Mem A × List Prop) :=
  match xv, cellsT yv with
  | .val false [.p i off], some l =>
    match nth m i with
    | some (some blk) =>
      match blk.ro, over blk.cells off l with
      | false, some cells => if sizeT P t = some (lsize l) then some (setN m i (some ⟨cells, blk.ty, false⟩), []) else none
      | _, _ => none
    | _ => none
  | .val false [.r i off n z], some [s] =>
    match nth m i with
    | some (some blk) =>
      match wideOf blk.cells off with
      | some x =>
        match blk.ro, atomOf s, sizeT P t with
        | false, some y, some 1 =>
          match Atom.set x z y with
          | some row' => some (setN m i (some ⟨[.a row'], blk.ty, false⟩), [Atom.size x = n])
          | none => none
        | _, _, _ => none
      | none =>
      match blk.ro, cut blk.cells off n, atomOf s, sizeT P t with
      | false, some l, some y, some 1 =>
        match rowA l with
        | some row =>
          if Atom.size row = n then
            match Atom.set row z y with
            | some row' =>
              match over blk.cells off [.a row'] with
              | some cells => some (setN m i (some ⟨cells, blk.ty, false⟩), [])
              | none => none
            | none => none
          else none
        | none => none
      | _, _, _, _ => none
    | _ => none
  | _, _ => none
/-- A slice's elements; or so many noughts. (z: an element's zero cells.) -/
def srcZ (c : Cfg A) (m : Mem A) (t t' : TypeId) (sz : Nat) (z : List (SV A)) (yv : TV A) : Option ((Nat → A) × Nat × Nat × List Prop) :=
  if t = t' then srcV c m sz yv
  else
    match c.P.underlying t', yv with
    | some (.int _), .val false [.n _ x] =>
      match litsA (flat z) with
      | some (a :: r) => if (a :: r).length = sz then some (fun q => ((a :: r)[q % sz]?).getD a, 0, x.toNat, [0 ≤ x ∧ x ≤ 9223372036854775807]) else none
      | _ => none
    | _, _ => none

/-- Elements behind a slice. -/
def appendW (src : Option ((Nat → A) × Nat × Nat × List Prop)) (m : Mem A) (e : TypeId) (sz bytes : Nat) (xv : TV A) : Option (TV A × Mem A × List Prop) :=
  match src with
  | some (g, j, n, vc) =>
    match xv with
    | .val false [.v (.slice none 0 0)] => some (.val false [.gr (fun q => g (j + q)) m.length 1 n sz], m ++ [some ⟨[.mk 1 (timesN n sz)], e, false⟩], Bears n bytes :: vc)
    | .val false [.gr f i v k sz'] =>
      match nth m i with
      | some (some ⟨[.mk v' k'], e', false⟩) =>
        if sz = sz' ∧ e = e' then some (.val false [.gr (catF f (timesN k sz) g j) i (v' + 1) (k + n) sz], setN m i (some ⟨[.mk (v' + 1) (k' + timesN n sz)], e, false⟩), (v = v' ∧ timesN k sz = k' ∧ Bears (k + n) bytes) :: vc)
        else none
      | _ => none
    | .val false [.s i off k cp] =>
      match nth m i with
      | some (some blk) =>
        match cut blk.cells off (timesN k sz) with
        | some l =>
          match litsA (flat l) with
          | some (x :: r) =>
            if (x :: r).length = timesN k sz ∧ k = cp then
              some (.val false [.gr (catF (fun q => ((x :: r)[q]?).getD x) (timesN k sz) g j) m.length 1 (k + n) sz], m ++ [some ⟨[.mk 1 (timesN (k + n) sz)], e, false⟩], (0 < n ∧ Bears (k + n) bytes) :: vc)
            else none
          | _ => none
        | none => none
      | _ => none
    | _ => none
  | none => none

/-- The same; where the oracle says so, there are no elements to come behind it. -/
def appendV (q : Bool) (src : Option ((Nat → A) × Nat × Nat × List Prop)) (m : Mem A) (e : TypeId) (sz bytes : Nat) (xv : TV A) : Option (TV A × Mem A × List Prop) :=
  match q with
  | true =>
    match src, xv with
    | some (_, _, n, vc), .val false [.s i off k cp] => some (.val false [.s i off k cp], m, (n = 0 ∧ k ≤ cp) :: vc)
    | _, _ => none
  | false => appendW src m e sz bytes xv

/-- Does the oracle say so? -/
def noneTo (c : Cfg A) (rd : Nat) (d : Option Tmp) : Bool :=
  match d with
  | some d => (match c.orc rd d with | .lit _ => true | _ => false)
  | none => false

/-- Elements copied over others. -/
def copyV (c : Cfg A) (m : Mem A) (sz : Nat) (xv yv : TV A) : Option (TV A × Mem A × List Prop) :=
  match xv with
  | .val false [.s i off n _] =>
    match nth m i with
    | some (some blk) =>
      match blk.ro with
      | false =>
        match yv with
        | .val false [.s i2 off2 n2 _] =>
          match nth m i2 with
          | some (some blk2) =>
            match cut blk2.cells off2 (min n2 n * sz) with
            | some l =>
              match over blk.cells off l with
              | some cells => some (.val false [.v (.int .i64 (min n2 n : Nat))], setN m i (some ⟨cells, blk.ty, false⟩), [])
              | none => none
            | none => none
          | _ => none
        | _ =>
          match srcV c m 1 yv, cut blk.cells off n with
          | some (g, j, n2, vc), some l =>
            match rowA l with
            | some row =>
              if sz = 1 ∧ Atom.size row = n then
                match Atom.splice row (fun q => g (j + q)) (min n2 n) with
                | some (row', p) =>
                  match over blk.cells off [.a row'] with
                  | some cells => some (.val false [.n .i64 (min n2 n : Nat)], setN m i (some ⟨cells, blk.ty, false⟩), p :: vc)
                  | none => none
                | none => none
              else none
            | none => none
          | _, _ => none
      | true => none
    | _ => none
  | _ => none

/-- What a function has captured, as arguments. -/
def capsTV : List (Nat × Nat) → List (TV A)
  | [] => []
  | (i, off) :: r => .val false [.p i off] :: capsTV r

/-- A call. -/
def callX (c : Cfg A) (st : St A) (d : Option Tmp) (g : FuncId) (l : List (TV A)) : Option (St A) :=
  match c.call g l st.m with
  | some (v, none, vc) => some (putT { st with vc := (decT c st.rd d v).2 ++ (vc ++ st.vc) } d (decT c st.rd d v).1)
  | some (v, some m', vc) => some (putT { st with m := m', vc := (decT c st.rd d v).2 ++ (vc ++ st.vc) } d (decT c st.rd d v).1)
  | none => none

/-- Is this a nil slice that is taken for one that grows? -/
def growQ (c : Cfg A) (rd : Nat) (d : Option Tmp) (v : TV A) : Option (TypeId × Nat) :=
  match v with
  | .val false [.v (.slice none 0 0)] =>
    match d with
    | some d =>
      match c.orc rd d with
      | .grow e sz => if sizeT c.P e = some sz then some (e, sz) else none
      | _ => none
    | none => none
  | _ => none

/-- A slice of bytes turned into its own type: its row isn't to be written from there on. -/
def markV (c : Cfg A) (st : St A) (src dst : TypeId) (x : Operand) : Option (Mem A × TV A) :=
  match evO c st x with
  | some (.val false [.s i off n cap]) =>
    if src = dst then
      match c.P.underlying src with
      | some (.slice e) =>
        match c.P.underlying e, nth st.m i with
        | some (.int .u8), some (some blk) => if blk.ro = false then some (setN st.m i (some ⟨blk.cells, blk.ty, true⟩), .val false [.s i off n cap]) else none
        | _, _ => none
      | _ => none
    else none
  | _ => none

/-- One operation. -/
def exec1 (c : Cfg A) (st : St A) (o : Oper) : Option (St A) :=
  match o.op with
  | .alloc t =>
    match zeroT c.P t with
    | some cells =>
      match growQ c st.rd o.dst (.val false cells) with
      | some (e, sz) => some (putT { st with m := (st.m ++ [some ⟨[.mk 0 0], e, false⟩]) ++ [some ⟨[.gr (fun _ => Atom.dummy) st.m.length 0 0 sz], t, false⟩] } o.dst (.val false [.p (st.m.length + 1) 0]))
      | none => some (putT { st with m := st.m ++ [some ⟨cells, t, false⟩] } o.dst (.val false [.p st.m.length 0]))
    | none => none
  | .assign x =>
    match evO c st x with
    | some v =>
      match growQ c st.rd o.dst v with
      | some (e, sz) => some (putT { st with m := st.m ++ [some ⟨[.mk 0 0], e, false⟩] } o.dst (.val false [.gr (fun _ => Atom.dummy) st.m.length 0 0 sz]))
      | none => some (putT { st with vc := (decT c st.rd o.dst v).2 ++ ([] ++ st.vc) } o.dst (decT c st.rd o.dst v).1)
    | none => none
  | .box t x =>
    match evO c st x with
    | some xv =>
      match cellsT xv with
      | some cells => some (putT { st with m := st.m ++ [some ⟨cells, t, false⟩] } o.dst (.val false [.p st.m.length 0]))
      | none => none
    | none => none
  | .buildSlice t len parts =>
    match c.P.underlying t with
    | some (.slice e) =>
      match sizeT c.P e, zeroT (A := A) c.P e with
      | some (sz + 1), some z =>
        if len * (sz + 1) ≤ 4096 then
          if z.length = sz + 1 then
            match fillV (fun i => some (i * (sz + 1), sz + 1)) c st (List.replicate len z).flatten parts.toList with
            | some cells => some (putT { st with m := st.m ++ [some ⟨cells, e, false⟩] } o.dst (.val false [.s st.m.length 0 len len]))
            | none => none
          else none
        else none
      | _, _ => none
    | _ => none
  | .makeSlice t x y =>
    match c.P.underlying t, evO c st x, evO c st y with
    | some (.slice e), some (.val false [.v (.int _ (.ofNat n))]), some (.val false [.v (.int _ (.ofNat k))]) =>
      match c.P.info? e, sizeT c.P e, zeroT (A := A) c.P e with
      | some i, some (sz + 1), some z =>
        if n = k ∧ n * (sz + 1) ≤ 4096 ∧ i.bytes * n ≤ 65536 then
          if z.length = sz + 1 then some (putT { st with m := st.m ++ [some ⟨(List.replicate n z).flatten, e, false⟩] } o.dst (.val false [.s st.m.length 0 n n]))
          else none
        else none
      | _, _, _ => none
    | some (.slice e), some (.val false [.n _ u]), some (.val false [.n _ v]) =>
      match makeW (A := A) c.P e u.toNat with
      | some (a, row, bytes) => some (putT { st with m := st.m ++ [some ⟨[.a row], e, false⟩], vc := Makes bytes u v :: st.vc } o.dst (.val false [.s st.m.length 0 u.toNat u.toNat]))
      | none => none
    | _, _, _ => none
  | .store t x y =>
    match evO c st x, evO c st y with
    | some xv, some yv =>
      match storeV c.P st.m t xv yv with
      | some (m', vc) => some (putT { st with m := m', vc := vc ++ st.vc } o.dst undefT)
      | none => none
    | _, _ => none
  | .call { callee := .value (.func g), args, argTypes := _ } =>
    match evL c st args.toList with
    | some l => callX c st o.dst g l
    | none => none
  | .call { callee := .builtin .append, args, argTypes } =>
    match evL c st args.toList, argTypes.toList with
    | some [xv, yv], [t, t'] =>
      match c.P.underlying t with
      | some (.slice e) =>
        match c.P.info? e, sizeT c.P e, zeroT (A := A) c.P e with
        | some i, some (sz + 1), some z =>
          if z.length = sz + 1 then
            match appendV (noneTo c st.rd o.dst) (srcZ c st.m t t' (sz + 1) z yv) st.m e (sz + 1) i.bytes xv with
            | some (v, m', vc) => some (putT { st with m := m', vc := vc ++ st.vc } o.dst v)
            | none => none
          else none
        | _, _, _ => none
      | _ => none
    | _, _ => none
  | .call { callee := .builtin .copy, args, argTypes } =>
    match evL c st args.toList, argTypes.toList with
    | some [xv, yv], t :: _ =>
      match c.P.underlying t with
      | some (.slice e) =>
        match sizeT c.P e with
        | some sz =>
          match copyV c st.m sz xv yv with
          | some (v, m', vc) => some (putT { st with m := m', vc := vc ++ st.vc } o.dst v)
          | none => none
        | none => none
      | _ => none
    | _, _ => none
  | .call { callee := .value (.tmp x), args, argTypes := _ } =>
    match nth st.t x, evL c st args.toList with
    | some (.val false [.y i]), some l =>
      match c.yf i l st.rd st.m st.pd with
      | some (b, m', pd', vc) => some (putT { st with m := m', pd := pd', vc := vc ++ st.vc } o.dst (.val false [.v (.bool b)]))
      | none => none
    | some (.val false [.f g cap]), some l => callX c st o.dst g (l ++ capsTV cap)
    | _, _ => none
  | .convert src dst x =>
    match opV c st (.convert src dst x) with
    | some (v, vc) => some (putT { st with vc := (decT c st.rd o.dst v).2 ++ (vc ++ st.vc) } o.dst (decT c st.rd o.dst v).1)
    | none => match markV c st src dst x with | some (m', v) => some (putT { st with m := m' } o.dst v) | none => none
  | op =>
    match opV c st op with
    | some (v, vc) => some (putT { st with vc := (decT c st.rd o.dst v).2 ++ (vc ++ st.vc) } o.dst (decT c st.rd o.dst v).1)
    | none => none

/-- Is an operation carried out? -/
def wants (ops : List Oper) (st : St A) (o : Oper) : Option Bool :=
  match o.guard with
  | none => some true
  | some (j, want) =>
    match nth ops j with
    | some oj =>
      match oj.dst with
      | some d =>
        match nth st.t d with
        | some (.tup []) => some false
        | some tv =>
          match boolOf tv with
          | some b => some (b == want)
          | none => none
        | none => none
      | none => none
    | none => none

def execOps (c : Cfg A) (ops : List Oper) : List Oper → St A → Option (St A)
  | [], st => some st
  | o :: rest, st =>
    match wants ops st o with
    | some true =>
      match exec1 c st o with
      | some st' => execOps c ops rest st'
      | none => none
    | some false => execOps c ops rest (putT st o.dst undefT)
    | none => none

end
end Go.Sh

/- What a shadow stands for, and that the operations on shadows are those on values. -/
namespace Go.Sh
open Go.RowKit

/-- Where the blocks lie; which blocks hold the calls that loops over functions have put off (none); which cells hold for good; where the growing slices lie at each of their turns (no block: nil), and for how many elements there is room. -/
structure Adr where
  pl : Nat → Option Nat
  kp : Nat → Prop
  kn : Addr → Value → Prop
  gs : Nat → Nat → Option (Option Nat × Nat)

/-- Nothing is known. -/
def Adr.nil : Adr := ⟨fun _ => none, fun _ => False, fun _ _ => False, fun _ _ => none⟩
/-- More cells hold for good. -/
def Adr.know (β : Adr) (K : Addr → Value → Prop) : Adr := ⟨β.pl, β.kp, fun a v => β.kn a v ∨ K a v, β.gs⟩

instance : CoeFun Adr (fun _ => Nat → Option Nat) := ⟨Adr.pl⟩

structure Adr.le (β β' : Adr) : Prop where
  pl : ∀ i b, β i = some b → β' i = some b
  kp : ∀ k, β.kp k → β'.kp k
  kn : ∀ a v, β.kn a v → β'.kn a v
  gs : ∀ i v x, β.gs i v = some x → β'.gs i v = some x
theorem Adr.le_refl (β : Adr) : Adr.le β β := ⟨fun _ _ h => h, fun _ h => h, fun _ _ h => h, fun _ _ _ h => h⟩
theorem Adr.le_trans {β β' β'' : Adr} (h : Adr.le β β') (h' : Adr.le β' β'') : Adr.le β β'' :=
  ⟨fun i b e => h'.pl i b (h.pl i b e), fun k e => h'.kp k (h.kp k e), fun a v e => h'.kn a v (h.kn a v e), fun i v x e => h'.gs i v x (h.gs i v x e)⟩
theorem Adr.le_know (β : Adr) (K : Addr → Value → Prop) : Adr.le β (β.know K) := ⟨fun _ _ h => h, fun _ h => h, fun _ _ h => .inl h, fun _ _ _ h => h⟩

section
variable {A : Type} [Atom A]

def capsIs (β : Adr) : List (Nat × Nat) → List Value → Prop
  | [], vs => vs = []
  | (i, off) :: l, vs => ∃ b r, β i = some b ∧ capsIs β l r ∧ vs = .pointer (some ⟨b, off, none⟩) :: r

def extIs : Option Addr → Nat → Nat → Nat → List Value → Prop
  | none, _, n, c, vs => n = 0 ∧ c = 0 ∧ vs = [.slice none 0 0]
  | some a, i, n, c, vs => ∃ p, (0 < c → p = a.add i) ∧ n ≤ c ∧ vs = [.slice (some p) n c]

/-- k cells from p on hold for good. -/
def Known (β : Adr) (p : Addr) (f : Nat → A) (i k : Nat) : Prop := ∀ j, j < k → ∃ v, β.kn (p.add j) v ∧ Atom.cells (f (i + j)) = [v]

def knownIs (β : Adr) (f : Nat → A) (i n sz : Nat) (vs : List Value) : Prop :=
  (n = 0 ∧ vs = [.slice none 0 0]) ∨ ∃ p c, vs = [.slice (some p) n c] ∧ n ≤ c ∧ Known β p f i (n * sz)

def growsIs (β : Adr) (f : Nat → A) (n sz : Nat) (vs : List Value) : Option (Option Nat × Nat) → Prop
  | some (none, _) => n = 0 ∧ vs = [.slice none 0 0]
  | some (some b, cap) => vs = [.slice (some ⟨b, 0, none⟩) n cap] ∧ n ≤ cap ∧ Known β ⟨b, 0, none⟩ f 0 (n * sz)
  | none => False

def growsAt (off : Nat) (vs : List Value) : Option (Option Nat × Nat) → Prop
  | some (some b, _) => vs = [.pointer (some ⟨b, off, none⟩)]
  | _ => False

def SV.Is (β : Adr) : SV A → List Value → Prop
  | .v x, vs => vs = [x] ∧ x.oneCell' = true
  | .n k x, vs => vs = [.int k x]
  | .b x, vs => vs = [.bool x]
  | .p i off, vs => ∃ b, β i = some b ∧ vs = [.pointer (some ⟨b, off, none⟩)]
  | .s i off len cap, vs => ∃ b, β i = some b ∧ vs = [.slice (some ⟨b, off, none⟩) len cap]
  | .f g cap, vs => ∃ cs, capsIs β cap cs ∧ vs = [.func (.func g) #[] cs.toArray]
  | .a x, vs => vs = Atom.cells x
  | .r i off len z, vs => z < len ∧ ∃ b, β i = some b ∧ vs = [.pointer (some ⟨b, off + z, none⟩)]
  | .e ad _ i ln cp, vs => extIs ad i ln cp vs
  | .q ad _ i, vs => ∃ b, ad = some b ∧ vs = [.pointer (some (b.add i))]
  | .y i, vs => ∃ b, β i = some b ∧ vs = [.func (.yield b) #[] #[]]
  | .w k x, vs => vs = [.int k (k.wrap x)]
  | .kn fc i ln sz, vs => knownIs β fc i ln sz vs
  | .ka fc i ln, vs => ∃ ad, vs = [.pointer (some ad)] ∧ Known β ad fc i ln
  | .gr fc i tu ln sz, vs => growsIs β fc ln sz vs (β.gs i tu)
  | .ga i tu off, vs => growsAt off vs (β.gs i tu)
  | .mk _ _, _ => False
  | .tx l, vs => vs = [.string ⟨l.toArray⟩]

def LIs (β : Adr) : List (SV A) → List Value → Prop
  | [], vs => vs = []
  | s :: l, vs => ∃ x y, SV.Is β s x ∧ LIs β l y ∧ vs = x ++ y

def VIs (β : Adr) (g : Bool) (l : List (SV A)) (v : Value) : Prop :=
  match g with
  | true => ∃ vs, LIs β l vs ∧ v = .agg vs.toArray
  | false => LIs β l [v]

def PsIs (β : Adr) : List (Bool × List (SV A)) → List Value → Prop
  | [], vs => vs = []
  | x :: l, vs => ∃ v r, VIs β x.1 x.2 v ∧ PsIs β l r ∧ vs = v :: r

def TV.Is (β : Adr) : TV A → Value → Prop
  | .val g l, v => VIs β g l v
  | .tup l, v => ∃ vs, PsIs β l vs ∧ v = .tuple vs.toArray
  | .any, _ => True

def TsIs (β : Adr) : List (TV A) → List Value → Prop
  | [], vs => vs = []
  | x :: l, vs => ∃ v r, TV.Is β x v ∧ TsIs β l r ∧ vs = v :: r

theorem capsIs.mono {β β' : Adr} (h : Adr.le β β') : ∀ {l vs}, capsIs β l vs → capsIs β' l vs
  | [], _, e => e
  | (_, _) :: _, _, ⟨b, r, h1, h2, e⟩ => ⟨b, r, h.pl _ _ h1, capsIs.mono h h2, e⟩

theorem Known.mono {β β' : Adr} (h : Adr.le β β') {p : Addr} {f : Nat → A} {i k : Nat} (hk : Known β p f i k) : Known β' p f i k := fun j hj => by
  obtain ⟨v, h1, h2⟩ := hk j hj
  exact ⟨v, h.kn _ _ h1, h2⟩

theorem growsIs.some {β : Adr} {f : Nat → A} {n sz : Nat} {vs : List Value} {x : Option (Option Nat × Nat)} (h : growsIs β f n sz vs x) : ∃ y, x = some y := by
  cases x with
  | none => exact h.elim
  | some y => exact ⟨y, rfl⟩
theorem growsAt.some {off : Nat} {vs : List Value} {x : Option (Option Nat × Nat)} (h : growsAt off vs x) : ∃ b c, x = some (some b, c) ∧ vs = [.pointer (some ⟨b, off, none⟩)] := by
  cases x with
  | none => exact h.elim
  | some y =>
    obtain ⟨b, c⟩ := y
    cases b with
    | none => exact h.elim
    | some b => exact ⟨b, c, rfl, h⟩
theorem growsIs.known {β : Adr} {f : Nat → A} {n sz : Nat} {vs : List Value} {x : Option (Option Nat × Nat)} (h : growsIs β f n sz vs x) : knownIs β f 0 n sz vs := by
  obtain ⟨⟨b, cap⟩, rfl⟩ := h.some
  cases b with
  | none => exact .inl h
  | some b => obtain ⟨h1, h2, h3⟩ := h; exact .inr ⟨_, _, h1, h2, h3⟩
theorem growsIs.mono {β β' : Adr} (hle : Adr.le β β') {f : Nat → A} {n sz : Nat} {vs : List Value} {x : Option (Option Nat × Nat)} (h : growsIs β f n sz vs x) : growsIs β' f n sz vs x := by
  obtain ⟨⟨b, cap⟩, rfl⟩ := h.some
  cases b with
  | none => exact h
  | some b => obtain ⟨h1, h2, h3⟩ := h; exact ⟨h1, h2, h3.mono hle⟩
theorem knownIs.single {β : Adr} {f : Nat → A} {i n sz : Nat} {vs : List Value} (h : knownIs β f i n sz vs) : ∃ p c, vs = [.slice p n c] := by
  rcases h with ⟨rfl, h⟩ | ⟨p, c, h, _⟩
  · exact ⟨_, _, h⟩
  · exact ⟨_, _, h⟩

theorem growsIs.same {β β' : Adr} (hk : ∀ a v, β.kn a v → β'.kn a v) {f : Nat → A} {n sz : Nat} {vs : List Value} {x : Option (Option Nat × Nat)} (h : growsIs β f n sz vs x) : growsIs β' f n sz vs x := by
  obtain ⟨⟨b, cap⟩, rfl⟩ := h.some
  cases b with
  | none => exact h
  | some b =>
    obtain ⟨h1, h2, h3⟩ := h
    refine ⟨h1, h2, fun j hj => ?_⟩
    obtain ⟨v, k1, k2⟩ := h3 j hj
    exact ⟨v, hk _ _ k1, k2⟩
theorem growsIs.single {β : Adr} {f : Nat → A} {n sz : Nat} {vs : List Value} {x : Option (Option Nat × Nat)} (h : growsIs β f n sz vs x) : ∃ p c, vs = [.slice p n c] := h.known.single

theorem SV.Is.mono {β β' : Adr} (h : Adr.le β β') {s : SV A} {vs : List Value} (hs : s.Is β vs) : s.Is β' vs := by
  cases s with
  | p i off => obtain ⟨b, h1, h2⟩ := hs; exact ⟨b, h.pl _ _ h1, h2⟩
  | r i off len z => obtain ⟨h0, b, h1, h2⟩ := hs; exact ⟨h0, b, h.pl _ _ h1, h2⟩
  | s i off len cap => obtain ⟨b, h1, h2⟩ := hs; exact ⟨b, h.pl _ _ h1, h2⟩
  | f g cap => obtain ⟨cs, h1, h2⟩ := hs; exact ⟨cs, h1.mono h, h2⟩
  | y i => obtain ⟨b, h1, h2⟩ := hs; exact ⟨b, h.pl _ _ h1, h2⟩
  | kn f i n sz =>
    rcases hs with h1 | ⟨p, c, h1, h2, h3⟩
    · exact .inl h1
    · exact .inr ⟨p, c, h1, h2, h3.mono h⟩
  | ka f i k => obtain ⟨p, h1, h2⟩ := hs; exact ⟨p, h1, h2.mono h⟩
  | gr f i v n sz =>
    have hs : growsIs β f n sz vs (β.gs i v) := hs
    obtain ⟨y, hy⟩ := hs.some
    show growsIs β' f n sz vs (β'.gs i v)
    rw [h.gs _ _ _ hy]
    rw [hy] at hs
    exact hs.mono h
  | ga i v off =>
    have hs : growsAt off vs (β.gs i v) := hs
    obtain ⟨b, c, hy, h2⟩ := hs.some
    show growsAt off vs (β'.gs i v)
    rw [h.gs _ _ _ hy]
    exact h2
  | _ => exact hs

theorem LIs.mono {β β' : Adr} (h : Adr.le β β') : ∀ {l : List (SV A)} {vs}, LIs β l vs → LIs β' l vs
  | [], _, e => e
  | _ :: _, _, ⟨x, y, h1, h2, e⟩ => ⟨x, y, h1.mono h, LIs.mono h h2, e⟩

theorem VIs.mono {β β' : Adr} (h : Adr.le β β') {g : Bool} {l : List (SV A)} {v : Value} (hv : VIs β g l v) : VIs β' g l v := by
  cases g with
  | true => obtain ⟨vs, h1, h2⟩ := hv; exact ⟨vs, h1.mono h, h2⟩
  | false => exact LIs.mono h hv

theorem PsIs.mono {β β' : Adr} (h : Adr.le β β') : ∀ {l : List (Bool × List (SV A))} {vs}, PsIs β l vs → PsIs β' l vs
  | [], _, e => e
  | _ :: _, _, ⟨v, r, h1, h2, e⟩ => ⟨v, r, h1.mono h, PsIs.mono h h2, e⟩

theorem TV.Is.mono {β β' : Adr} (h : Adr.le β β') {t : TV A} {v : Value} (ht : t.Is β v) : t.Is β' v := by
  cases t with
  | val g l => exact VIs.mono h ht
  | tup l => obtain ⟨vs, h1, h2⟩ := ht; exact ⟨vs, h1.mono h, h2⟩
  | any => exact ht

theorem TsIs.mono {β β' : Adr} (h : Adr.le β β') : ∀ {l : List (TV A)} {vs}, TsIs β l vs → TsIs β' l vs
  | [], _, e => e
  | _ :: _, _, ⟨v, r, h1, h2, e⟩ => ⟨v, r, h1.mono h, TsIs.mono h h2, e⟩

theorem SV.Is.extern {β : Adr} {a : Option Addr} {f : Nat → A} {i n c : Nat} {vs : List Value} (h : (SV.e a f i n c).Is β vs) : ∃ p, vs = [.slice p n c] := by
  cases a with
  | none => obtain ⟨rfl, rfl, h⟩ := h; exact ⟨none, h⟩
  | some a => obtain ⟨p, _, _, h⟩ := h; exact ⟨some p, h⟩

theorem SV.Is.len {β : Adr} {s : SV A} {vs : List Value} (h : s.Is β vs) : vs.length = s.size := by
  cases s with
  | v x => obtain ⟨rfl, _⟩ := h; rfl
  | n k x => obtain rfl := h; rfl
  | b x => obtain rfl := h; rfl
  | p i off => obtain ⟨b, _, rfl⟩ := h; rfl
  | s i off len cap => obtain ⟨b, _, rfl⟩ := h; rfl
  | f g cap => obtain ⟨cs, _, rfl⟩ := h; rfl
  | a x => obtain rfl := h; exact Atom.len x
  | r i off len z => obtain ⟨_, b, _, rfl⟩ := h; rfl
  | e a f i n c => obtain ⟨p, rfl⟩ := h.extern; rfl
  | q a f i => obtain ⟨b, _, rfl⟩ := h; rfl
  | y i => obtain ⟨b, _, rfl⟩ := h; rfl
  | w k x => obtain rfl := h; rfl
  | kn f i n sz => obtain ⟨_, _, rfl⟩ := (h : knownIs β f i n sz vs).single; rfl
  | ka f i k => obtain ⟨p, rfl, _⟩ := h; rfl
  | gr f i v n sz => obtain ⟨_, _, rfl⟩ := (h : growsIs β f n sz vs (β.gs i v)).single; rfl
  | ga i v off => obtain ⟨_, _, _, rfl⟩ := (h : growsAt off vs (β.gs i v)).some; rfl
  | mk v n => exact h.elim
  | tx l => obtain rfl := h; rfl

theorem SV.Is.one {β : Adr} {s : SV A} {vs : List Value} (h : s.Is β vs) : ∀ v ∈ vs, v.oneCell' = true := by
  intro v hv
  cases s with
  | v x => obtain ⟨rfl, h1⟩ := h; simp at hv; subst hv; exact h1
  | n k x => obtain rfl := h; simp at hv; subst hv; rfl
  | b x => obtain rfl := h; simp at hv; subst hv; rfl
  | p i off => obtain ⟨b, _, rfl⟩ := h; simp at hv; subst hv; rfl
  | s i off len cap => obtain ⟨b, _, rfl⟩ := h; simp at hv; subst hv; rfl
  | f g cap => obtain ⟨cs, _, rfl⟩ := h; simp at hv; subst hv; rfl
  | a x => obtain rfl := h; exact Atom.one x v hv
  | r i off len z => obtain ⟨_, b, _, rfl⟩ := h; simp at hv; subst hv; rfl
  | e a f i n c => obtain ⟨p, rfl⟩ := h.extern; simp at hv; subst hv; rfl
  | q a f i => obtain ⟨b, _, rfl⟩ := h; simp at hv; subst hv; rfl
  | y i => obtain ⟨b, _, rfl⟩ := h; simp at hv; subst hv; rfl
  | w k x => obtain rfl := h; simp at hv; subst hv; rfl
  | kn f i n sz => obtain ⟨_, _, rfl⟩ := (h : knownIs β f i n sz vs).single; simp at hv; subst hv; rfl
  | ka f i k => obtain ⟨p, rfl, _⟩ := h; simp at hv; subst hv; rfl
  | gr f i w n sz => obtain ⟨_, _, rfl⟩ := (h : growsIs β f n sz vs (β.gs i w)).single; simp at hv; subst hv; rfl
  | ga i w off => obtain ⟨_, _, _, rfl⟩ := (h : growsAt off vs (β.gs i w)).some; simp at hv; subst hv; rfl
  | mk w n => exact h.elim
  | tx l => obtain rfl := h; simp at hv; subst hv; rfl

theorem LIs.len {β : Adr} : ∀ {l : List (SV A)} {vs}, LIs β l vs → vs.length = lsize l
  | [], _, e => by subst e; rfl
  | _ :: _, _, ⟨x, y, h1, h2, e⟩ => by subst e; simp [lsize, h1.len, LIs.len h2]

theorem LIs.one {β : Adr} : ∀ {l : List (SV A)} {vs}, LIs β l vs → ∀ v ∈ vs, v.oneCell' = true
  | [], _, e => by subst e; intro v hv; cases hv
  | _ :: _, _, ⟨x, y, h1, h2, e⟩ => by
    subst e
    intro v hv
    rcases List.mem_append.1 hv with h | h
    · exact h1.one v h
    · exact LIs.one h2 v h

theorem LIs.append {β : Adr} : ∀ {l r : List (SV A)} {x y}, LIs β l x → LIs β r y → LIs β (l ++ r) (x ++ y)
  | [], _, _, _, e, h => by subst e; exact h
  | _ :: _, _, _, _, ⟨x, y, h1, h2, e⟩, h => by
    subst e
    exact ⟨x, _, h1, LIs.append h2 h, by rw [List.append_assoc]⟩

theorem LIs.vs {β : Adr} : ∀ {vs : List Value}, (∀ v ∈ vs, v.oneCell' = true) → LIs (A := A) β (vs.map .v) vs
  | [], _ => rfl
  | v :: vs, h => ⟨[v], vs, ⟨rfl, h v (by simp)⟩, LIs.vs (fun x hx => h x (by simp [hx])), rfl⟩

theorem LIs.atoms {β : Adr} : ∀ l : List A, LIs β (l.map SV.a) (l.map Atom.cells).flatten
  | [] => rfl
  | x :: l => ⟨Atom.cells x, _, rfl, LIs.atoms l, rfl⟩

theorem explode_is {β : Adr} {s : SV A} {vs : List Value} (h : s.Is β vs) : LIs β (explode s) vs := by
  cases s with
  | a x =>
    obtain rfl := h
    simp only [explode]
    split
    · rename_i l hl
      rw [(Atom.parts_ok hl).1]
      exact LIs.atoms l
    · exact LIs.vs (Atom.one x)
  | _ => exact ⟨vs, [], h, rfl, by simp⟩

theorem flat_is {β : Adr} : ∀ {l : List (SV A)} {vs : List Value}, LIs β l vs → LIs β (flat l) vs
  | [], _, h => h
  | s :: l, vs, ⟨x, y, h1, h2, e⟩ => by
    have ih := flat_is h2
    subst e
    cases s with
    | a z =>
      obtain rfl := h1
      simp only [flat]
      split
      · rename_i r hr
        rw [(Atom.parts_ok hr).1]
        exact (LIs.atoms r).append ih
      · exact ⟨_, y, rfl, ih, rfl⟩
    | _ => exact ⟨x, y, h1, ih, rfl⟩

theorem atomOf_is {β : Adr} {s : SV A} {vs : List Value} {x : A} (h : s.Is β vs) (e : atomOf s = some x) : vs = Atom.cells x := by
  unfold atomOf at e
  split at e
  · simp at e; subst e; exact h
  · rename_i k z
    split at e
    · rename_i hw
      have := Atom.wrap_ok e
      rw [this, hw]
      exact h.1
    · cases e
  · cases e

theorem atomsOf_is {β : Adr} : ∀ {l : List (SV A)} {vs : List Value} {r : List A}, LIs β l vs → atomsOf l = some r → vs = (r.map Atom.cells).flatten
  | [], vs, r, h, e => by simp [atomsOf] at e; subst e; exact h
  | s :: l, vs, r, ⟨x, y, h1, h2, e'⟩, e => by
    simp only [atomsOf] at e
    split at e
    · rename_i a r' ha hr
      simp at e; subst e; subst e'
      rw [atomOf_is h1 ha, atomsOf_is h2 hr]
      rfl
    · cases e

theorem rowA_is {β : Adr} {l : List (SV A)} {vs : List Value} {x : A} (h : LIs β l vs) (e : rowA l = some x) : vs = Atom.cells x := by
  unfold rowA at e
  split at e
  · simp at e; subst e
    obtain ⟨u, y, h1, h2, rfl⟩ := h
    obtain rfl : y = [] := h2
    obtain rfl : u = _ := h1
    simp
  · split at e
    · rename_i r hr
      rw [Atom.pack_ok e]
      exact atomsOf_is h hr
    · cases e

theorem LIs.take_drop {β : Adr} : ∀ {l : List (SV A)} {vs} (n : Nat), (∀ s ∈ l, s.size = 1) → LIs β l vs → LIs β (l.take n) (vs.take n) ∧ LIs β (l.drop n) (vs.drop n)
  | [], _, n, _, e => by subst e; simp [LIs]
  | _ :: _, _, 0, _, h => by simp only [List.take_zero, List.drop_zero]; exact ⟨rfl, h⟩
  | s :: l, _, n + 1, hs, ⟨x, y, h1, h2, e⟩ => by
    subst e
    have hx : x.length = 1 := by rw [h1.len]; exact hs s (by simp)
    match x, hx with
    | [v], _ =>
      have ih := LIs.take_drop n (fun s' hs' => hs s' (by simp [hs'])) h2
      simp only [List.cons_append, List.nil_append, List.take_succ_cons, List.drop_succ_cons]
      exact ⟨⟨[v], _, h1, ih.1, rfl⟩, ih.2⟩

theorem splitC_is {β : Adr} : ∀ {l : List (SV A)} {vs} {n : Nat} {x y}, LIs β l vs → splitC l n = some (x, y) →
    LIs β x (vs.take n) ∧ LIs β y (vs.drop n) ∧ n ≤ vs.length
  | l, vs, 0, x, y, h, e => by
    have : x = [] ∧ y = l := by cases l <;> (simp [splitC] at e; obtain ⟨rfl, rfl⟩ := e; exact ⟨rfl, rfl⟩)
    obtain ⟨rfl, rfl⟩ := this
    simp only [List.take_zero, List.drop_zero]
    exact ⟨rfl, h, Nat.zero_le _⟩
  | [], _, _ + 1, _, _, _, e => by simp [splitC] at e
  | s :: l, _, n + 1, x, y, ⟨u, w, h1, h2, hv⟩, e => by
    subst hv
    unfold splitC at e
    have hu := h1.len
    split at e
    · rename_i hle
      split at e
      · rename_i x' y' he
        simp at e
        obtain ⟨rfl, rfl⟩ := e
        have ih := splitC_is h2 he
        rw [List.take_append, List.drop_append]
        have e1 : u.take (n + 1) = u := List.take_of_length_le (by omega)
        have e2 : u.drop (n + 1) = [] := List.drop_of_length_le (by omega)
        rw [e1, e2, hu]
        refine ⟨⟨u, _, h1, ih.1, rfl⟩, by simpa using ih.2.1, ?_⟩
        simp; omega
      · cases e
    · rename_i hlt
      simp at e
      obtain ⟨rfl, rfl⟩ := e
      have hex := explode_is h1
      have hone : ∀ s' ∈ explode s, s'.size = 1 := by
        intro s' hs'
        cases s with
        | a x =>
          simp only [explode] at hs'
          split at hs'
          · rename_i r hr
            obtain ⟨v, hv, rfl⟩ := List.mem_map.1 hs'
            exact (Atom.parts_ok hr).2 v hv
          · obtain ⟨v, _, rfl⟩ := List.mem_map.1 hs'
            rfl
        | _ => simp only [explode, List.mem_singleton] at hs'; subst hs'; rfl
      have htd := LIs.take_drop (n + 1) hone hex
      rw [List.take_append, List.drop_append]
      have hz : n + 1 - u.length = 0 := by omega
      rw [hz]
      simp only [List.take_zero, List.append_nil, List.drop_zero]
      refine ⟨htd.1, htd.2.append h2, ?_⟩
      simp; omega

theorem cut_is {β : Adr} {l x : List (SV A)} {vs : List Value} {off n : Nat} (h : LIs β l vs) (e : cut l off n = some x) :
    LIs β x ((vs.drop off).take n) ∧ off + n ≤ vs.length := by
  unfold cut at e
  split at e
  · rename_i u r hr
    split at e
    · rename_i x' y hx
      simp at e
      subst e
      obtain ⟨_, h2, h3⟩ := splitC_is h hr
      obtain ⟨h4, _, h5⟩ := splitC_is h2 hx
      refine ⟨h4, ?_⟩
      simp at h5
      omega
    · cases e
  · cases e

theorem over_is {β : Adr} {l x y : List (SV A)} {vs us : List Value} {off : Nat} (h : LIs β l vs) (hx : LIs β x us) (e : over l off x = some y) :
    LIs β y (vs.take off ++ us ++ vs.drop (off + us.length)) ∧ off + us.length ≤ vs.length := by
  unfold over at e
  split at e
  · rename_i u r hr
    split at e
    · rename_i x' r' hx'
      simp at e
      subst e
      obtain ⟨h1, h2, h3⟩ := splitC_is h hr
      obtain ⟨_, h4, h5⟩ := splitC_is h2 hx'
      rw [← hx.len] at h4 h5
      rw [List.drop_drop] at h4
      refine ⟨?_, ?_⟩
      · rw [List.append_assoc]
        exact h1.append (hx.append h4)
      · simp at h5
        omega
    · cases e
  · cases e

theorem nth_eq {α : Type} : ∀ (l : List α) (i : Nat), nth l i = l[i]?
  | [], _ => by simp [nth]
  | _ :: _, 0 => by simp [nth]
  | _ :: l, n + 1 => by simp [nth, nth_eq l n]

theorem setN_eq {α : Type} : ∀ (l : List α) (i : Nat) (y : α), setN l i y = l.set i y
  | [], _, _ => by simp [setN]
  | _ :: _, 0, _ => by simp [setN]
  | _ :: l, n + 1, y => by simp [setN, setN_eq l n]

theorem TsIs.nth {β : Adr} : ∀ {l : List (TV A)} {vs} {i : Nat} {t}, TsIs β l vs → Sh.nth l i = some t → ∃ v, vs[i]? = some v ∧ t.Is β v
  | [], _, _, _, _, h => by simp [Sh.nth] at h
  | _ :: _, _, 0, t, ⟨v, r, h1, _, e⟩, h => by
    subst e
    simp [Sh.nth] at h
    subst h
    exact ⟨v, by simp, h1⟩
  | _ :: l, _, n + 1, t, ⟨v, r, _, h2, e⟩, h => by
    subst e
    simp only [Sh.nth] at h
    obtain ⟨u, hu, ht⟩ := TsIs.nth h2 h
    exact ⟨u, by simpa using hu, ht⟩

theorem TsIs.set {β : Adr} : ∀ {l : List (TV A)} {vs} {i : Nat} {t v}, TsIs β l vs → t.Is β v → TsIs β (setN l i t) (vs.set i v)
  | [], _, _, _, _, e, _ => by subst e; simp [setN, TsIs]
  | _ :: _, _, 0, t, v, ⟨u, r, _, h2, e⟩, h => by subst e; exact ⟨v, r, h, h2, by simp⟩
  | _ :: l, _, n + 1, t, v, ⟨u, r, h1, h2, e⟩, h => by subst e; exact ⟨u, _, h1, TsIs.set h2 h, by simp⟩

theorem PsIs.nth {β : Adr} : ∀ {l : List (Bool × List (SV A))} {vs} {i : Nat} {t}, PsIs β l vs → Sh.nth l i = some t → ∃ v, vs[i]? = some v ∧ VIs β t.1 t.2 v
  | [], _, _, _, _, h => by simp [Sh.nth] at h
  | _ :: _, _, 0, t, ⟨v, r, h1, _, e⟩, h => by
    subst e
    simp [Sh.nth] at h
    subst h
    exact ⟨v, by simp, h1⟩
  | _ :: l, _, n + 1, t, ⟨v, r, _, h2, e⟩, h => by
    subst e
    simp only [Sh.nth] at h
    obtain ⟨u, hu, ht⟩ := PsIs.nth h2 h
    exact ⟨u, by simpa using hu, ht⟩

/-- W' is W with new blocks, and with X's blocks written. -/
structure Ext (X : Nat → Prop) (W W' : World) : Prop where
  os : W'.os = W.os
  tape : W'.tape = W.tape
  output : W'.output = W.output
  size : W.heap.size ≤ W'.heap.size
  block : ∀ k, k < W.heap.size → ¬ X k → W'.heap[k]? = W.heap[k]?

abbrev Keeps (W W' : World) : Prop := Ext (fun _ => False) W W'

theorem Ext.refl (X : Nat → Prop) (W : World) : Ext X W W := ⟨rfl, rfl, rfl, Nat.le_refl _, fun _ _ _ => rfl⟩
theorem Ext.trans {X : Nat → Prop} {a b c : World} (h : Ext X a b) (k : Ext X b c) : Ext X a c :=
  ⟨k.os.trans h.os, k.tape.trans h.tape, k.output.trans h.output, Nat.le_trans h.size k.size, fun i hi hx => (k.block i (Nat.lt_of_lt_of_le hi h.size) hx).trans (h.block i hi hx)⟩
theorem Ext.mono {X Y : Nat → Prop} {a b : World} (h : Ext X a b) (hxy : ∀ k, k < a.heap.size → X k → Y k) : Ext Y a b :=
  ⟨h.os, h.tape, h.output, h.size, fun i hi hy => h.block i hi (fun hx => hy (hxy i hi hx))⟩
theorem Keeps.ext {X : Nat → Prop} {a b : World} (h : Keeps a b) : Ext X a b := Ext.mono h (fun _ _ hx => hx.elim)
theorem Keeps.below {a b : World} (h : Keeps a b) : Below a.heap.size a b := ⟨h.os, h.tape, h.output, h.size, fun k hk => h.block k hk id⟩
theorem Keeps.of_below {a b : World} (h : Below a.heap.size a b) : Keeps a b := ⟨h.os, h.tape, h.output, h.size, fun k hk _ => h.block k hk⟩
theorem Keeps.refl (a : World) : Keeps a a := Ext.refl _ _
theorem Keeps.drew (a : World) : Keeps a a.drew := ⟨rfl, rfl, rfl, Nat.le_refl _, fun _ _ _ => rfl⟩
theorem Keeps.alloc (a : World) (o : Obj) : Keeps a (a.alloc o) :=
  ⟨rfl, rfl, rfl, by show a.heap.size ≤ (a.heap.push o).size; simp, fun k hk _ => by show (a.heap.push o)[k]? = _; rw [Array.getElem?_push, if_neg (by omega)]⟩

/-- A growing slice, where it lies. -/
structure VecAt (P : Program) (own : Nat → Prop) (β : Adr) (W : World) (i v n : Nat) (l : List (SV A)) (ty : TypeId) : Prop where
  free : β i = none
  last : ∀ v', v < v' → β.gs i v' = none
  lies : ∃ (bo : Option Nat) (cap : Nat) (vs : List Value) (sz : Nat), β.gs i v = some (bo, cap) ∧ sizeT P ty = some sz ∧ vs.length = n ∧ cap ≤ maxLen ∧
    ∀ b, bo = some b → own b ∧ ∃ tail : List Value, W.heap[b]? = some (.cells (vs ++ tail).toArray ty (0, 0)) ∧ (vs ++ tail).length = cap * sz
  nil : ∀ cap, β.gs i v = some (none, cap) → n = 0 ∧ cap = 0

/-- Block b is that of the growing slice i. -/
def vecIn (β : Adr) (m : Mem A) (i b : Nat) : Prop := ∃ blk v n l cap, nth m i = some (some blk) ∧ blk.vec = some (v, n, l) ∧ β.gs i v = some (some b, cap)

/-- Block b is that of the writable block i, or of the growing slice i. -/
def wrt (β : Adr) (m : Mem A) (i b : Nat) : Prop := (∃ blk, nth m i = some (some blk) ∧ blk.vec = none ∧ blk.ro = false ∧ β i = some b) ∨ vecIn β m i b

/-- The same of an address: a growing slice's cells that are told aren't written. -/
def wra (β : Adr) (m : Mem A) (i : Nat) (a : Addr) : Prop := (∃ blk, nth m i = some (some blk) ∧ blk.vec = none ∧ blk.ro = false ∧ β i = some a.block) ∨
  ∃ blk v n l cap, nth m i = some (some blk) ∧ blk.vec = some (v, n, l) ∧ β.gs i v = some (some a.block, cap) ∧ n ≤ a.off
theorem wra.wrt {β : Adr} {m : Mem A} {i : Nat} {a : Addr} (h : wra β m i a) : wrt β m i a.block := by
  rcases h with h | ⟨blk, v, n, l, cap, h1, h2, h3, _⟩
  · exact .inl h
  · exact .inr ⟨blk, v, n, l, cap, h1, h2, h3⟩

/-- The memory of a shadow state, in a world. -/
structure MRel (c : Cfg A) (X : Nat → Prop) (W0 : World) (β : Adr) (m : Mem A) (W : World) : Prop where
  mem : ∀ i blk, nth m i = some (some blk) → blk.vec = none → ∃ b vs fz, β i = some b ∧ LIs β blk.cells vs ∧ W.heap[b]? = some (.cells vs.toArray blk.ty fz) ∧
    (blk.ro = false → fz = (0, 0) ∧ (W0.heap.size ≤ b ∨ X b))
  inj : ∀ i j bi bj b, nth m i = some (some bi) → nth m j = some (some bj) → β i = some b → β j = some b → i = j
  dom : ∀ i b, β i = some b → b < W.heap.size
  ext : Ext X W0 W
  glob : ∀ g i, c.gl g = some i → β i = some g
  old : ∀ a v, c.old a = some v → W0.cell? a = some v ∧ a.block < W0.heap.size ∧ ¬ X a.block
  nc : ∀ k, β.kp k → W.heap[k]? = some (.deferred (some [])) ∧ (W0.heap.size ≤ k ∨ X k)
  kn : ∀ a v, β.kn a v → W.cell? a = some v ∧ (W0.heap.size ≤ a.block ∨ X a.block) ∧ ∀ i, ¬ wra β m i a
  vec : ∀ i blk v n l, nth m i = some (some blk) → blk.vec = some (v, n, l) → VecAt c.P (fun b => W0.heap.size ≤ b ∨ X b) β W i v n l blk.ty
  sep : ∀ i b, vecIn β m i b → ∀ j, (∀ blk, nth m j = some (some blk) → β j ≠ some b) ∧ (vecIn β m j b → i = j)

theorem cell?_heap {W : World} {a : Addr} {v : Value} (h : W.cell? a = some v) : ∃ cs t fz, W.heap[a.block]? = some (.cells cs t fz) := by
  unfold World.cell? at h
  split at h
  · rename_i cs t fz hh
    exact ⟨cs, t, fz, hh⟩
  · cases h

theorem cell?_lt {W : World} {a : Addr} {v : Value} (h : W.cell? a = some v) : a.block < W.heap.size := by
  obtain ⟨_, _, _, h⟩ := cell?_heap h
  exact (Array.getElem?_eq_some_iff.1 h).1

theorem cell?_same {W W' : World} {a : Addr} {v : Value} (h : W.cell? a = some v) (e : W'.heap[a.block]? = W.heap[a.block]?) : W'.cell? a = some v := by
  rw [World.cell?_of_block e]; exact h

theorem VecAt.kept {P : Program} {own own' : Nat → Prop} {β : Adr} {W W' : World} {i v n : Nat} {l : List (SV A)} {ty : TypeId} (h : VecAt P own β W i v n l ty) (ho : ∀ b cap, β.gs i v = some (some b, cap) → own b → own' b)
    (hk : ∀ b cap, β.gs i v = some (some b, cap) → W'.heap[b]? = W.heap[b]?) : VecAt P own' β W' i v n l ty := by
  refine ⟨h.free, h.last, ?_, h.nil⟩
  obtain ⟨bo, cap, vs, sz, h1, h2, h3, h4, h6⟩ := h.lies
  refine ⟨bo, cap, vs, sz, h1, h2, h3, h4, fun b hb => ?_⟩
  obtain ⟨k1, tail, k2, k3⟩ := h6 b hb
  subst hb
  exact ⟨ho b cap h1 k1, tail, by rw [hk b cap h1]; exact k2, k3⟩

theorem VecAt.mono {P : Program} {own : Nat → Prop} {β β' : Adr} {W : World} {i v n : Nat} {l : List (SV A)} {ty : TypeId} (h : VecAt P own β W i v n l ty) (hle : Adr.le β β') (hf : β' i = none) (hl : ∀ v', v < v' → β'.gs i v' = none) : VecAt P own β' W i v n l ty := by
  obtain ⟨bo, cap, vs, sz, h1, h2, h3, h4, h6⟩ := h.lies
  refine ⟨hf, hl, ⟨bo, cap, vs, sz, hle.gs _ _ _ h1, h2, h3, h4, h6⟩, fun cap' hc => ?_⟩
  have := (hle.gs _ _ _ h1).symm.trans hc
  simp only [Option.some.injEq, Prod.mk.injEq] at this
  obtain ⟨rfl, rfl⟩ := this
  exact h.nil _ h1

theorem vecIn.block {c : Cfg A} {X : Nat → Prop} {W0 W : World} {β : Adr} {m : Mem A} (h : MRel c X W0 β m W) {i b : Nat} (hv : vecIn β m i b) : ∃ cs t, W.heap[b]? = some (.cells cs t (0, 0)) ∧ (W0.heap.size ≤ b ∨ X b) := by
  obtain ⟨blk, v, n, l, cap, h1, h2, h3⟩ := hv
  obtain ⟨bo, cap', vs, sz, k1, k2, k3, k4, k6⟩ := (h.vec i blk v n l h1 h2).lies
  have := k1.symm.trans h3
  simp only [Option.some.injEq, Prod.mk.injEq] at this
  obtain ⟨rfl, rfl⟩ := this
  obtain ⟨g1, tail, g2, g3⟩ := k6 b rfl
  exact ⟨_, _, g2, g1⟩

theorem wrt.block {c : Cfg A} {X : Nat → Prop} {W0 W : World} {β : Adr} {m : Mem A} (h : MRel c X W0 β m W) {i b : Nat} (hv : wrt β m i b) : ∃ cs t, W.heap[b]? = some (.cells cs t (0, 0)) ∧ (W0.heap.size ≤ b ∨ X b) := by
  rcases hv with ⟨blk, h1, h2, h3, h4⟩ | hv
  · obtain ⟨b', vs, fz, g1, g2, g3, g4⟩ := h.mem i blk h1 h2
    have : b' = b := Option.some.inj (g1.symm.trans h4)
    subst this
    obtain ⟨rfl, g5⟩ := g4 h3
    exact ⟨_, _, g3, g5⟩
  · exact hv.block h

theorem wrt.lt {c : Cfg A} {X : Nat → Prop} {W0 W : World} {β : Adr} {m : Mem A} (h : MRel c X W0 β m W) {i b : Nat} (hv : wrt β m i b) : b < W.heap.size := by
  obtain ⟨_, _, h1, _⟩ := hv.block h
  exact (Array.getElem?_eq_some_iff.1 h1).1

/-- A block that is at a place is none that grows. -/
theorem MRel.plain {c : Cfg A} {X : Nat → Prop} {W0 W : World} {β : Adr} {m : Mem A} (h : MRel c X W0 β m W) {i b : Nat} {blk : Blk A} (hi : nth m i = some (some blk)) (hb : β i = some b) : blk.vec = none := by
  cases e : blk.vec with
  | none => rfl
  | some x =>
    obtain ⟨v, n, l⟩ := x
    have := (h.vec i blk v n l hi e).free
    rw [hb] at this
    cases this

/-- What lies at a place. -/
theorem MRel.at {c : Cfg A} {X : Nat → Prop} {W0 W : World} {β : Adr} {m : Mem A} (h : MRel c X W0 β m W) {i b : Nat} {blk : Blk A} (hi : nth m i = some (some blk)) (hb : β i = some b) :
    ∃ vs fz, LIs β blk.cells vs ∧ W.heap[b]? = some (.cells vs.toArray blk.ty fz) ∧ (blk.ro = false → fz = (0, 0) ∧ (W0.heap.size ≤ b ∨ X b)) := by
  obtain ⟨b', vs, fz, g1, g2, g3, g4⟩ := h.mem i blk hi (h.plain hi hb)
  have : b' = b := Option.some.inj (g1.symm.trans hb)
  subst this
  exact ⟨vs, fz, g2, g3, g4⟩

/-- The same, in the words of the memory. -/
theorem MRel.mem' {c : Cfg A} {X : Nat → Prop} {W0 W : World} {β : Adr} {m : Mem A} (h : MRel c X W0 β m W) {i b : Nat} {blk : Blk A} (hi : nth m i = some (some blk)) (hb : β i = some b) :
    ∃ b vs fz, β i = some b ∧ LIs β blk.cells vs ∧ W.heap[b]? = some (.cells vs.toArray blk.ty fz) ∧ (blk.ro = false → fz = (0, 0) ∧ (W0.heap.size ≤ b ∨ X b)) :=
  h.mem i blk hi (h.plain hi hb)

theorem vecIn.of {β : Adr} {m m' : Mem A} (live : ∀ i blk, nth m' i = some (some blk) → nth m i = some (some blk)) {i b : Nat} (h : vecIn β m' i b) : vecIn β m i b := by
  obtain ⟨blk, v, n, l, cap, h1, h2, h3⟩ := h
  exact ⟨blk, v, n, l, cap, live _ _ h1, h2, h3⟩
theorem wrt.of {β : Adr} {m m' : Mem A} (live : ∀ i blk, nth m' i = some (some blk) → nth m i = some (some blk)) {i b : Nat} (h : wrt β m' i b) : wrt β m i b := by
  rcases h with ⟨blk, h1, h2⟩ | h
  · exact .inl ⟨blk, live _ _ h1, h2⟩
  · exact .inr (h.of live)

theorem wra.of {β : Adr} {m m' : Mem A} (live : ∀ i blk, nth m' i = some (some blk) → nth m i = some (some blk)) {i : Nat} {a : Addr} (h : wra β m' i a) : wra β m i a := by
  rcases h with ⟨blk, h1, h2⟩ | ⟨blk, v, n, l, cap, h1, h2⟩
  · exact .inl ⟨blk, live _ _ h1, h2⟩
  · exact .inr ⟨blk, v, n, l, cap, live _ _ h1, h2⟩

/-- A part of the memory. -/
theorem MRel.live {c : Cfg A} {X : Nat → Prop} {W0 W : World} {β : Adr} {m m' : Mem A} (h : MRel c X W0 β m W) (live : ∀ i blk, nth m' i = some (some blk) → nth m i = some (some blk)) : MRel c X W0 β m' W :=
  ⟨fun i blk hi => h.mem i blk (live _ _ hi), fun i j bi bj b li lj => h.inj i j bi bj b (live _ _ li) (live _ _ lj), h.dom, h.ext, h.glob, h.old, h.nc,
    fun a v hk => ⟨(h.kn a v hk).1, (h.kn a v hk).2.1, fun i hw => (h.kn a v hk).2.2 i (hw.of live)⟩, fun i blk v n l hi => h.vec i blk v n l (live _ _ hi),
    fun i b hv j => ⟨fun blk hj => (h.sep i b (hv.of live) j).1 blk (live _ _ hj), fun hv' => (h.sep i b (hv.of live) j).2 (hv'.of live)⟩⟩

theorem MRel.keeps {c : Cfg A} {X : Nat → Prop} {W0 : World} {β : Adr} {m : Mem A} {W W' : World} (h : MRel c X W0 β m W) (k : Keeps W W') : MRel c X W0 β m W' where
  mem := fun i blk hi hv => by
    obtain ⟨b, vs, fz, h1, h2, h3, h4⟩ := h.mem i blk hi hv
    exact ⟨b, vs, fz, h1, h2, by rw [k.block b (h.dom i b h1) id]; exact h3, h4⟩
  inj := h.inj
  dom := fun i b hi => Nat.lt_of_lt_of_le (h.dom i b hi) k.size
  ext := h.ext.trans k.ext
  glob := h.glob
  old := h.old
  nc := fun j hj => by
    have := h.nc j hj
    rw [k.block j (Array.getElem?_eq_some_iff.1 this.1).1 id]
    exact this
  kn := fun a v hk => by
    obtain ⟨h1, h2, h3⟩ := h.kn a v hk
    exact ⟨cell?_same h1 (k.block _ (cell?_lt h1) id), h2, h3⟩
  vec := fun i blk v n l hi hv => (h.vec i blk v n l hi hv).kept (fun _ _ _ h => h) (fun b cap hb => k.block b (wrt.lt h (.inr ⟨blk, v, n, l, cap, hi, hv, hb⟩)) id)
  sep := h.sep

/-- New cells that hold for good. -/
def Fresh (W W' : World) (K : Addr → Value → Prop) : Prop := ∀ a v, K a v → W'.cell? a = some v ∧ W.heap.size ≤ a.block
theorem Fresh.none (W W' : World) : Fresh W W' (fun _ _ => False) := fun _ _ h => h.elim

theorem wrt.know {β : Adr} {m : Mem A} {K : Addr → Value → Prop} {i b : Nat} : wrt (β.know K) m i b ↔ wrt β m i b := Iff.rfl

theorem MRel.know {c : Cfg A} {X : Nat → Prop} {W0 : World} {β : Adr} {m : Mem A} {W W' : World} (h : MRel c X W0 β m W) (k : Keeps W W') {K : Addr → Value → Prop} (hK : Fresh W W' K) : MRel c X W0 (β.know K) m W' := by
  have h' := h.keeps k
  have hle := Adr.le_know β K
  refine ⟨fun i blk hi hv => ?_, h'.inj, h'.dom, h'.ext, h'.glob, h'.old, h'.nc, fun a v hk => ?_, fun i blk v n l hi hv => (h'.vec i blk v n l hi hv).mono hle (h'.vec i blk v n l hi hv).free (h'.vec i blk v n l hi hv).last, h'.sep⟩
  · obtain ⟨b, vs, fz, h1, h2, h3, h4⟩ := h'.mem i blk hi hv
    exact ⟨b, vs, fz, h1, h2.mono hle, h3, h4⟩
  · rcases hk with hk | hk
    · exact h'.kn a v hk
    · obtain ⟨h1, h2⟩ := hK a v hk
      exact ⟨h1, .inl (Nat.le_trans h.ext.size h2), fun i hw => by have := wrt.lt h (wra.wrt (β := β) hw); omega⟩

theorem MRel.cell {c : Cfg A} {X : Nat → Prop} {W0 : World} {β : Adr} {m : Mem A} {W : World} (h : MRel c X W0 β m W) {a : Addr} {v : Value} (e : c.old a = some v) : W.cell? a = some v := by
  obtain ⟨h1, h2, h3⟩ := h.old a v e
  rw [← h1]
  exact World.cell?_of_block (w := W0) (h.ext.block a.block h2 h3)

/-- The calls that a frame has put off: none. -/
def Defs (ok : Nat → Prop) (β : Adr) : List Deferred → Prop
  | [] => True
  | d :: ds => (∃ D, d = { target := .collected D, args := #[] } ∧ β.kp D ∧ ok D ∧ ∀ d' ∈ ds, d' ≠ d) ∧ Defs ok β ds
theorem Defs.mono {ok : Nat → Prop} {β β' : Adr} (h : Adr.le β β') : ∀ {ds : List Deferred}, Defs ok β ds → Defs ok β' ds
  | [], _ => trivial
  | _ :: _, ⟨⟨D, h1, h2, h3⟩, h4⟩ => ⟨⟨D, h1, h.kp D h2, h3⟩, Defs.mono h h4⟩

/-- The slots of a shadow state, in a frame. -/
structure TRel (β : Adr) (t : List (TV A)) (a : Act) : Prop where
  tmps : TsIs β t a.tmps.toList

/-- Beyond the memory's end no block has a place. -/
def Top (β : Adr) (m : Mem A) : Prop := ∀ i, m.length ≤ i → β i = none ∧ ∀ v, β.gs i v = none

/-- What holds no cells lies as it lay. -/
abbrev NC (W W' : World) : Prop := ∀ (k : Nat) (o : Obj), W.heap[k]? = some o → o.isCells = false → W'.heap[k]? = some o
theorem NC.refl (W : World) : NC W W := fun _ _ h _ => h
theorem NC.trans {a b c : World} (h : NC a b) (k : NC b c) : NC a c := fun i o hi ho => k i o (h i o hi ho) ho
theorem Keeps.nc {W W' : World} (h : Keeps W W') : NC W W' := fun k _ hk _ => (h.block k (Array.getElem?_eq_some_iff.1 hk).1 id).trans hk

/-- The record of a loop over a function that is under way. -/
def YAt (X : Nat → Prop) (W0 : World) (β : Adr) (s : Ys A) (e : Option Ex) (W : World) : Prop :=
  ∃ (l : Nat) (rec : Loop), β s.ix = some l ∧ W.heap[l]? = some (.loop rec) ∧ (W0.heap.size ≤ l ∨ X l) ∧ rec.params.toList = s.ps ∧ rec.assign = s.assign ∧ rec.body = s.body ∧ TsIs β s.t rec.tmps.toList ∧
    (match e with
     | none => rec.state = .ready ∧ rec.pending = none
     | some e => rec.state = .done ∧ rec.pending = some e.code)

def YAll (X : Nat → Prop) (W0 : World) (β : Adr) : List (Ys A) → Pds → World → Prop
  | [], [], _ => True
  | s :: ss, e :: es, W => YAt X W0 β s e W ∧ (∀ s' ∈ ss, β s'.ix ≠ β s.ix) ∧ YAll X W0 β ss es W
  | _, _, _ => False

theorem YAt.kept {X : Nat → Prop} {W0 : World} {β β' : Adr} {s : Ys A} {e : Option Ex} {W W' : World} (h : YAt X W0 β s e W) (hle : Adr.le β β') (hn : ∀ l r, β s.ix = some l → W.heap[l]? = some (.loop r) → W'.heap[l]? = some (.loop r)) : YAt X W0 β' s e W' := by
  obtain ⟨l, rec, h1, h2, h3, h4, h5, h6, h7, h8⟩ := h
  exact ⟨l, rec, hle.pl _ _ h1, hn l rec h1 h2, h3, h4, h5, h6, h7.mono hle, h8⟩

theorem YAll.has {X : Nat → Prop} {W0 : World} {β : Adr} {W : World} : ∀ {ss : List (Ys A)} {es : Pds}, YAll X W0 β ss es W → ∀ s ∈ ss, ∃ e, YAt X W0 β s e W
  | s :: ss, e :: es, ⟨h1, _, h3⟩, s', hs' => by
    rcases List.mem_cons.1 hs' with rfl | hs'
    · exact ⟨e, h1⟩
    · exact YAll.has h3 s' hs'
  | [], _, _, _, h => by cases h
  | _ :: _, [], h, _, _ => h.elim

theorem YAll.kept' {X : Nat → Prop} {W0 : World} {β β' : Adr} (hle : Adr.le β β') {W W' : World} : ∀ {ss : List (Ys A)} {es : Pds}, YAll X W0 β ss es W →
    (∀ s ∈ ss, ∀ l r, β s.ix = some l → W.heap[l]? = some (.loop r) → W'.heap[l]? = some (.loop r)) → YAll X W0 β' ss es W'
  | [], [], _, _ => trivial
  | s :: ss, e :: es, ⟨h1, h2, h3⟩, hn => by
    have hs := h1
    refine ⟨h1.kept hle (hn s (by simp)), fun s' hs' => ?_, YAll.kept' hle h3 (fun s' hs' => hn s' (by simp [hs']))⟩
    obtain ⟨l, _, k1, _⟩ := hs
    obtain ⟨e', l', _, k2, _⟩ := h3.has s' hs'
    have := h2 s' hs'
    rw [k1, k2] at this
    rw [hle.pl _ _ k1, hle.pl _ _ k2]
    exact this
  | [], _ :: _, h, _ => h.elim
  | _ :: _, [], h, _ => h.elim

theorem YAll.kept {X : Nat → Prop} {W0 : World} {β β' : Adr} {W W' : World} {ss : List (Ys A)} {es : Pds} (h : YAll X W0 β ss es W) (hle : Adr.le β β') (hn : NC W W') : YAll X W0 β' ss es W' :=
  h.kept' hle (fun _ _ l _ _ hl => hn l _ hl rfl)

structure Rel (c : Cfg A) (X : Nat → Prop) (W0 : World) (β : Adr) (st : St A) (a : Act) (W : World) : Prop where
  t : TRel β st.t a
  m : MRel c X W0 β st.m W
  top : Top β st.m
  d : Defs (fun k => W0.heap.size ≤ k ∨ X k) β a.defers
  y : YAll X W0 β c.ys st.pd W

theorem put_defers (a : Act) (d : Option Tmp) (v : Value) : (a.put d v).defers = a.defers := by cases d <;> rfl

theorem TRel.mono {β β' : Adr} (h : Adr.le β β') {t : List (TV A)} {a : Act} (ht : TRel β t a) : TRel β' t a := ⟨ht.tmps.mono h⟩

theorem TRel.put {β : Adr} {st : St A} {a : Act} (h : TRel β st.t a) {d : Option Tmp} {tv : TV A} {v : Value} (hv : tv.Is β v) : TRel β (putT st d tv).t (a.put d v) := by
  cases d with
  | none => exact h
  | some d =>
    refine ⟨?_⟩
    simp only [putT, Act.put, Array.toList_setIfInBounds]
    exact h.tmps.set hv

theorem undefT_is (β : Adr) : (undefT : TV A).Is β undef := ⟨[], rfl, rfl⟩

theorem ofConst_is {β : Adr} {v : Value} {tv : TV A} (h : ofConst v = some tv) : tv.Is β v := by
  unfold ofConst at h
  split at h
  · rename_i cs
    split at h
    · rename_i hall
      simp at h; subst h
      refine ⟨cs.toList, LIs.vs (fun v hv => List.all_eq_true.1 hall v hv), by simp⟩
    · cases h
  · cases h
  · rename_i h1 h2
    simp at h; subst h
    refine ⟨[v], [], ⟨rfl, ?_⟩, rfl, rfl⟩
    cases v <;> first | rfl | exact absurd rfl (h1 _) | exact absurd rfl (h2 _)

theorem evO_is {c : Cfg A} {X : Nat → Prop} {W0 W : World} {β : Adr} {st : St A} {a : Act} (ht : TRel β st.t a) (hm : MRel c X W0 β st.m W) {x : Operand} {tv : TV A}
    (h : evO c st x = some tv) : tv.Is β (a.eval x) := by
  cases x with
  | tmp t =>
    obtain ⟨v, hv, hi⟩ := ht.tmps.nth h
    have : a.eval (.tmp t) = v := by
      simp only [Act.eval]
      simp at hv
      rw [Array.getD_eq_getD_getElem?, hv]; rfl
    rw [this]; exact hi
  | const v => exact ofConst_is h
  | global g =>
    simp only [evO] at h
    split at h
    · rename_i i hg
      simp at h; subst h
      exact ⟨[_], [], ⟨g, hm.glob g i hg, rfl⟩, rfl, rfl⟩
    · simp at h; subst h
      exact ⟨[_], [], ⟨_, rfl, rfl⟩, rfl, rfl⟩
  | func f =>
    simp only [evO] at h
    simp at h; subst h
    exact ⟨[_], [], ⟨[], rfl, rfl⟩, rfl, rfl⟩

/-- One cell. -/
theorem LIs.single {β : Adr} {s : SV A} {v : Value} (h : LIs β [s] [v]) : s.Is β [v] := by
  obtain ⟨x, y, h1, h2, e⟩ := h
  obtain rfl : y = [] := h2
  rw [List.append_nil] at e
  rw [e]; exact h1

theorem LIs.of_single {β : Adr} {s : SV A} {v : Value} (h : s.Is β [v]) : LIs β [s] [v] := ⟨[v], [], h, rfl, rfl⟩

theorem asKn_is {β : Adr} {t : TV A} {v : Value} (h : t.Is β v) : (asKn t).Is β v := by
  unfold asKn
  split
  · exact LIs.of_single (growsIs.known (LIs.single h))
  · exact h

theorem evK_is {c : Cfg A} {X : Nat → Prop} {W0 W : World} {β : Adr} {st : St A} {a : Act} (ht : TRel β st.t a) (hm : MRel c X W0 β st.m W) {x : Operand} {tv : TV A}
    (h : evK c st x = some tv) : tv.Is β (a.eval x) := by
  unfold evK at h
  split at h
  · rename_i v hv
    obtain rfl := Option.some.inj h
    exact asKn_is (evO_is ht hm hv)
  · cases h

theorem evL_is {c : Cfg A} {X : Nat → Prop} {W0 W : World} {β : Adr} {st : St A} {a : Act} (ht : TRel β st.t a) (hm : MRel c X W0 β st.m W) :
    ∀ {l : List Operand} {tvs : List (TV A)}, evL c st l = some tvs → TsIs β tvs (l.map a.eval)
  | [], tvs, h => by simp [evL] at h; subst h; rfl
  | x :: r, tvs, h => by
    simp only [evL] at h
    split at h
    · rename_i v l hv hl
      simp at h; subst h
      exact ⟨_, _, evO_is ht hm hv, evL_is ht hm hl, rfl⟩
    · cases h

theorem intOfSV_is {β : Adr} {s : SV A} {v : Value} {l : Bool} {k : IntKind} {x : Int} (h : s.Is β [v]) (e : intOfSV s = some (l, k, x)) : v = .int k x := by
  cases s with
  | v y =>
    obtain ⟨hv, _⟩ := h
    simp at hv
    unfold intOfSV at e
    split at e
    · rename_i k' x' hs
      simp at hs; simp at e
      obtain ⟨_, rfl, rfl⟩ := e
      rw [hv, hs]
    all_goals first | (cases e; done) | (rename_i h1; cases h1)
  | n k' x' => simp [intOfSV] at e; obtain ⟨_, rfl, rfl⟩ := e; simp [SV.Is] at h; exact h
  | a y =>
    simp only [intOfSV] at e
    split at e
    · rename_i k' z hz
      simp at e
      obtain ⟨_, rfl, rfl⟩ := e
      have h1 : [v] = Atom.cells y := h
      rw [Atom.int_ok hz] at h1
      simpa using h1
    · cases e
  | _ => simp [intOfSV] at e

theorem intOfSV_size {s : SV A} {x : Bool × IntKind × Int} (h : intOfSV s = some x) : s.size = 1 := by
  cases s with
  | a y =>
    simp only [intOfSV] at h
    split at h
    · rename_i k z hz
      have := Atom.len y
      rw [Atom.int_ok hz] at this
      simpa [SV.size] using this.symm
    · cases h
  | _ => rfl

theorem mkW_is {β : Adr} (l : Bool) (k : IntKind) (x : Int) : (mkW l k x : SV A).Is β [.int k (k.wrap x)] := by
  unfold mkW
  split
  · exact ⟨rfl, rfl⟩
  · split
    · rename_i y hy
      exact (Atom.wrap_ok hy).symm
    · exact rfl

theorem mkB_is {β : Adr} (l : Bool) (x : Bool) : (mkB l x : SV A).Is β [.bool x] := by
  cases l
  · exact rfl
  · exact ⟨rfl, rfl⟩

theorem litOf_is {β : Adr} {t : TV A} {v : Value} {x : Int} (h : t.Is β v) (e : litOf t = some x) : ∃ k, v = .int k x := by
  unfold litOf at e
  split at e
  · rename_i k y
    simp at e; subst e
    obtain ⟨hv, _⟩ := LIs.single h
    simp at hv
    exact ⟨k, hv⟩
  · cases e

theorem addrOf_is {β : Adr} {t : TV A} {v : Value} {i off : Nat} (h : t.Is β v) (e : addrOf t = some (i, off)) : ∃ b, β i = some b ∧ v = .pointer (some ⟨b, off, none⟩) := by
  unfold addrOf at e
  split at e
  · rename_i i' off'
    simp at e
    obtain ⟨rfl, rfl⟩ := e
    obtain ⟨b, hb, hv⟩ := LIs.single h
    simp at hv
    exact ⟨b, hb, hv⟩
  · cases e

theorem cellsT_is {β : Adr} {t : TV A} {v : Value} {l : List (SV A)} (h : t.Is β v) (e : cellsT t = some l) : LIs β l v.cells.toList := by
  unfold cellsT at e
  split at e
  · rename_i g l'
    simp at e; subst e
    cases g with
    | true => obtain ⟨vs, h1, rfl⟩ := h; simpa [Value.cells] using h1
    | false =>
      have hv : LIs β l' [v] := h
      have h1 := hv.one v (by simp)
      cases v <;> first | (simpa [Value.cells] using hv) | (simp [Value.oneCell'] at h1)
  · cases e

theorem boolOf_is {β : Adr} {t : TV A} {v : Value} {b : Bool} (h : t.Is β v) (e : boolOf t = some b) : v = .bool b := by
  unfold boolOf at e
  split at e
  · rename_i b'
    simp at e
    subst e
    obtain ⟨hv, _⟩ := LIs.single h
    simp at hv
    exact hv
  · cases e

theorem decT_is {c : Cfg A} {β : Adr} {rd : Nat} {d : Option Tmp} {t : TV A} {v : Value} (h : t.Is β v) (hvc : ∀ p ∈ (decT c rd d t).2, p) : (decT c rd d t).1.Is β v := by
  unfold decT at hvc ⊢
  split
  · split
    · rename_i x
      split
      · rename_i l hl
        simp only [hl] at hvc
        have h1 : x = l := hvc _ (by simp)
        have hv := LIs.single h
        simp [SV.Is] at hv
        subst h1
        rw [hv]
        exact LIs.of_single ⟨rfl, rfl⟩
      · have hv := LIs.single h
        simp [SV.Is] at hv
        rw [hv]
        cases x <;> exact LIs.of_single ⟨rfl, rfl⟩
      · exact h
      · exact h
      · exact h
    · rename_i d0 v0 k x
      have hv := LIs.single h
      simp [SV.Is] at hv
      simp only at hvc
      generalize c.orc rd d0 = q at hvc ⊢
      cases q with
      | lit z =>
        have h1 : k.wrap x = z := hvc _ (by simp)
        rw [hv, h1]
        exact LIs.of_single ⟨rfl, rfl⟩
      | _ =>
        simp only at hvc ⊢
        cases hn : c.nw with
        | true =>
          simp only [hn] at hvc
          have h1 : k.wrap x = x := hvc _ (by simp)
          rw [hv, h1]
          exact LIs.of_single rfl
        | false =>
          rw [hv]
          exact LIs.of_single rfl
    · rename_i d0 v0 k x
      have hv := LIs.single h
      simp [SV.Is] at hv
      simp only at hvc
      generalize c.orc rd d0 = q at hvc ⊢
      cases q with
      | lit z =>
        have h1 : x = z := hvc _ (by simp)
        rw [hv, h1]
        exact LIs.of_single ⟨rfl, rfl⟩
      | _ => exact h
    · rename_i d0 v0 y
      have hv : [v] = Atom.cells y := LIs.single h
      cases hy : Atom.bool y with
      | none => simpa [hy] using h
      | some x =>
        rw [Atom.bool_ok hy] at hv
        have hv : v = .bool x := List.head_eq_of_cons_eq hv
        simp only [hy] at hvc ⊢
        generalize c.orc rd d0 = q at hvc ⊢
        cases q with
        | take l =>
          have h1 : x = l := hvc _ (by simp)
          rw [hv, h1]
          exact LIs.of_single ⟨rfl, rfl⟩
        | _ =>
          rw [hv]
          exact LIs.of_single rfl
    · exact h
  · exact h

theorem boolSV_is {β : Adr} {s : SV A} {v : Value} {l x : Bool} (h : s.Is β [v]) (e : boolSV s = some (l, x)) : v = .bool x := by
  cases s with
  | v y =>
    obtain ⟨hv, _⟩ := h
    simp at hv
    unfold boolSV at e
    split at e
    · rename_i x' hs
      simp at hs; simp at e
      obtain ⟨_, rfl⟩ := e
      rw [hv, hs]
    all_goals first | (cases e; done) | (rename_i h1; cases h1)
  | b y => simp [boolSV] at e; obtain ⟨_, rfl⟩ := e; simp [SV.Is] at h; exact h
  | _ => simp [boolSV] at e

theorem txOf_is {β : Adr} {s : SV A} {v : Value} {l : List UInt8} (h : s.Is β [v]) (e : txOf s = some l) : ∃ b : ByteArray, v = .string b ∧ b.toList = l := by
  cases s with
  | tx l' =>
    simp [txOf] at e; subst e
    have h : [v] = [Value.string ⟨l'.toArray⟩] := h
    simp at h
    exact ⟨_, h, ByteArray.toList_mk l'⟩
  | v y =>
    obtain ⟨hv, _⟩ := h
    simp at hv
    unfold txOf at e
    split at e
    · rename_i heq; cases heq
    · rename_i s heq
      simp at heq e
      subst e
      exact ⟨s, by rw [hv, heq], ByteArray.toList_eq s⟩
    · cases e
  | _ => simp [txOf] at e

theorem fnOf_is {β : Adr} {s : SV A} {v : Value} {b : Bool} (h : s.Is β [v]) (e : fnOf s = some b) : (b = true ∧ v = .nilFunc) ∨ (b = false ∧ ∃ f x y, v = .func f x y) := by
  cases s with
  | f g cap =>
    simp [fnOf] at e
    obtain ⟨cs, _, h⟩ := h
    simp at h
    exact .inr ⟨e, _, _, _, h⟩
  | v y =>
    obtain ⟨hv, _⟩ := h
    simp at hv
    unfold fnOf at e
    split at e
    · rename_i heq
      simp at heq e
      exact .inl ⟨e, by rw [hv, heq]⟩
    · rename_i heq; cases heq
    · cases e
  | _ => simp [fnOf] at e

theorem natOf_eq {x : Int} {n : Nat} (h : natOf x = some n) : x = n := by
  unfold natOf at h
  split at h
  · simp at h; subst h; rfl
  · cases h

end
end Go.Sh

/- Aggregates of whole numbers, held against one another. -/
namespace Go.Sh
open Go.RowKit

theorem run_isAggS {P : Program} {w : World} {t : TypeId} {b : Bool} (h : isAggB P t = some b) : (isAgg t).run P w = .ok b w := by
  unfold isAggB at h
  unfold isAgg
  split at h
  · rename_i hu; cases h; rw [Sem.run_bind, run_underlying hu]; rfl
  · rename_i hu; cases h; rw [Sem.run_bind, run_underlying hu]; rfl
  · rename_i d h1 h2 hu
    cases h
    rw [Sem.run_bind, run_underlying hu, Result.andThen_ok]
    split <;> simp_all
  · cases h

/-- Cells that are whole numbers, pairwise of a kind: are all the same? -/
def eqVs : List Value → List Value → Option Bool
  | [], [] => some true
  | .int k a :: l, .int k' b :: r => if k = k' then (match eqVs l r with | some q => some ((a == b) && q) | none => none) else none
  | _, _ => none

theorem eqVs_len : ∀ {x y : List Value} {q : Bool}, eqVs x y = some q → x.length = y.length
  | [], [], _, _ => rfl
  | .int _ _ :: l, .int _ _ :: r, q, h => by
    simp only [eqVs] at h
    split at h
    · split at h
      · rename_i h'; simp [eqVs_len h']
      · cases h
    · cases h
  | [], _ :: _, _, h => by simp [eqVs] at h
  | x :: l, [], q, h => by cases x <;> simp [eqVs] at h
  | x :: l, y :: r, q, h => by
    cases x <;> cases y <;> simp only [eqVs] at h <;> try cases h
    split at h
    · split at h
      · rename_i h'; simp [eqVs_len h']
      · cases h
    · cases h

theorem eqVs_cons {k k' : IntKind} {a b : Int} {l r : List Value} {q : Bool} (h : eqVs (.int k a :: l) (.int k' b :: r) = some q) : k = k' ∧ ∃ q', eqVs l r = some q' ∧ q = ((a == b) && q') := by
  simp only [eqVs] at h
  split at h
  · split at h
    · rename_i hk _ q' hq
      exact ⟨hk, q', hq, by simpa using h.symm⟩
    · cases h
  · cases h

theorem eqVs_ints : ∀ {x y : List Value} {q : Bool}, eqVs x y = some q → ∀ u v l r, x = u :: l → y = v :: r → ∃ k a b, u = .int k a ∧ v = .int k b := by
  rintro x y q h u v l r rfl rfl
  cases u <;> cases v <;> simp only [eqVs] at h <;> try cases h
  split at h
  · rename_i hk; subst hk; exact ⟨_, _, _, rfl, rfl⟩
  · cases h

theorem eqVs_append : ∀ {x x' y y' : List Value} {q : Bool}, x.length = y.length → eqVs (x ++ x') (y ++ y') = some q → ∃ q1 q2, eqVs x y = some q1 ∧ eqVs x' y' = some q2 ∧ q = (q1 && q2)
  | [], x', [], y', q, _, h => ⟨true, q, rfl, h, by simp⟩
  | u :: l, x', v :: r, y', q, hl, h => by
    obtain ⟨k, a, b, rfl, rfl⟩ := eqVs_ints h _ _ _ _ rfl rfl
    obtain ⟨_, q', hq, e⟩ := eqVs_cons h
    obtain ⟨q1, q2, h1, h2, e2⟩ := eqVs_append (by simpa using hl) hq
    exact ⟨(a == b) && q1, q2, by simp [eqVs, h1], h2, by rw [e, e2, Bool.and_assoc]⟩
  | [], _, _ :: _, _, _, hl, _ => by simp at hl
  | _ :: _, _, [], _, _, hl, _ => by simp at hl

theorem eqRows_vs {A : Type} [Atom A] {β : Adr} : ∀ {l r : List (SV A)} {lit q : Bool} {xs ys : List Value}, eqRows l r = some (lit, q) → LIs β l xs → LIs β r ys → xs.length = l.length ∧ eqVs xs ys = some q
  | [], [], _, _, xs, ys, h, hx, hy => by
    simp [eqRows] at h
    obtain ⟨_, rfl⟩ := h
    obtain rfl : xs = [] := hx
    obtain rfl : ys = [] := hy
    exact ⟨rfl, rfl⟩
  | x :: l, y :: r, lit, q, xs, ys, h, hx, hy => by
    simp only [eqRows] at h
    split at h
    · rename_i lx kx a ly ky b lit' e' h1 h2 h3
      split at h
      · rename_i hk
        simp at h
        obtain ⟨_, rfl⟩ := h
        obtain ⟨ux, vx, hx1, hx2, rfl⟩ := hx
        obtain ⟨uy, vy, hy1, hy2, rfl⟩ := hy
        have sx : x.size = 1 := intOfSV_size h1
        have sy : y.size = 1 := intOfSV_size h2
        have lx1 := hx1.len
        have ly1 := hy1.len
        rw [sx] at lx1
        rw [sy] at ly1
        match ux, uy, lx1, ly1 with
        | [u], [v], _, _ =>
          have eu := intOfSV_is hx1 h1
          have ev := intOfSV_is hy1 h2
          subst eu; subst ev; subst hk
          obtain ⟨i1, i2⟩ := eqRows_vs h3 hx2 hy2
          exact ⟨by simp [i1], by simp [eqVs, i2]⟩
      · cases h
    · cases h
  | [], _ :: _, _, _, _, _, h, _, _ => by simp [eqRows] at h
  | _ :: _, [], _, _, _, _, h, _, _ => by simp [eqRows] at h

/-- Parts of a type, held against one another. -/
def PartEq (P : Program) (d : Nat) (t : TypeId) (m : Nat) : Prop :=
  ∀ (w : World) (X Y : Array Value) (off : Nat) (q : Bool), off + m ≤ X.size → off + m ≤ Y.size → eqVs ((X.toList.drop off).take m) ((Y.toList.drop off).take m) = some q →
    ∃ a b, (part t X off).run P w = .ok a w ∧ (part t Y off).run P w = .ok b w ∧ (Op.equalIn d t a b).run P w = .ok q w

theorem cut_split {X : List Value} {off m k : Nat} : (X.drop off).take (m + k) = (X.drop off).take m ++ (X.drop (off + m)).take k := by
  rw [List.take_add, List.drop_drop]

theorem items_eq {P : Program} {d : Nat} {e : TypeId} {m : Nat} (hc : P.cellsOf e = m) (IH : PartEq P d e m) (w : World) (X Y : Array Value) : ∀ (n i : Nat) (q : Bool), (i + n) * m ≤ X.size → (i + n) * m ≤ Y.size →
    eqVs ((X.toList.drop (i * m)).take (n * m)) ((Y.toList.drop (i * m)).take (n * m)) = some q → (Op.eqItems d e (P.cellsOf e) X Y (List.range' i n)).run P w = .ok q w
  | 0, i, q, _, _, h => by
    simp [eqVs] at h
    subst h
    simp [Op.eqItems]
  | n + 1, i, q, hX, hY, h => by
    have e1 : (n + 1) * m = m + n * m := by rw [Nat.succ_mul, Nat.add_comm]
    have e2 : i * m + m = (i + 1) * m := by rw [Nat.succ_mul]
    have e3 : (i + (n + 1)) * m = i * m + (m + n * m) := by rw [Nat.add_mul, e1]
    rw [e3] at hX hY
    rw [e1, cut_split, cut_split, e2] at h
    obtain ⟨q1, q2, h1, h2, rfl⟩ := eqVs_append (by simp; omega) h
    obtain ⟨a, b, p1, p2, p3⟩ := IH w X Y (i * m) q1 (by omega) (by omega) h1
    have e4 : (i + 1 + n) * m = i * m + (m + n * m) := by rw [Nat.add_mul, Nat.succ_mul]; omega
    have ih := items_eq hc IH w X Y n (i + 1) q2 (by omega) (by omega) h2
    rw [List.range'_succ]
    simp only [Op.eqItems, Sem.run_bind]
    rw [hc] at ih ⊢
    rw [p1, Result.andThen_ok, p2, Result.andThen_ok, p3, Result.andThen_ok]
    cases q1
    · simp
    · simpa using ih

theorem fields_eq {P : Program} {d : Nat} {f : TypeId → Option Nat} (IH : ∀ t m, f t = some m → PartEq P d t m) (w : World) (X Y : Array Value) (base : Nat) : ∀ (fs : List Field) (off s : Nat) (q : Bool), flatFs P f off fs = some s → s ≤ X.size → s ≤ Y.size →
    eqVs ((X.toList.drop off).take (s - off)) ((Y.toList.drop off).take (s - off)) = some q → off ≤ s ∧ (Op.eqFields d X Y fs).run P w = .ok q w
  | [], off, s, q, h, _, _, hq => by
    simp [flatFs] at h
    subst h
    simp [eqVs] at hq
    subst hq
    exact ⟨Nat.le_refl _, by simp [Op.eqFields]⟩
  | x :: l, off, s, q, h, hX, hY, hq => by
    simp only [flatFs] at h
    split at h
    · rename_i m hm
      split at h
      · rename_i ho
        split at h
        · cases h
        · rename_i hn
          have hle : off + m ≤ s := by
            clear hq
            revert h
            generalize off + m = k
            clear hn ho
            induction l generalizing k with
            | nil => intro h; simp [flatFs] at h; omega
            | cons y r ih =>
              intro h
              simp only [flatFs] at h
              split at h
              · split at h
                · split at h
                  · cases h
                  · have := ih _ h; omega
                · cases h
              · cases h
          have es : s - off = m + (s - (off + m)) := by omega
          rw [es, cut_split, cut_split] at hq
          obtain ⟨q1, q2, h1, h2, rfl⟩ := eqVs_append (by simp; omega) hq
          obtain ⟨a, b, p1, p2, p3⟩ := IH _ _ hm w X Y off q1 (by omega) (by omega) h1
          obtain ⟨_, ih⟩ := fields_eq IH w X Y base l (off + m) s q2 h hX hY h2
          refine ⟨by omega, ?_⟩
          simp only [Op.eqFields, hn, ne_eq, not_false_eq_true, if_true, Sem.run_bind, ho]
          rw [p1, Result.andThen_ok, p2, Result.andThen_ok, p3, Result.andThen_ok]
          cases q1
          · simp
          · simpa using ih
      · cases h
    · cases h

theorem run_partAgg {P : Program} {w : World} {t : TypeId} {i : TypeInfo} (ha : isAggB P t = some true) (hi : P.info? t = some i) (X : Array Value) (off : Nat) :
    (part t X off).run P w = .ok (.agg (X.extract off (off + i.size))) w := by
  unfold part
  rw [Sem.run_bind, run_isAggS ha, Result.andThen_ok, if_pos rfl, Sem.run_bind, run_sizeOf w hi, Result.andThen_ok]
  simp [Program.cellsOf, hi]

theorem extract_cut (X : Array Value) (off m : Nat) : (X.extract off (off + m)).toList = (X.toList.drop off).take m := by
  rw [Array.toList_extract]
  simp [List.extract]

theorem eqFlat {P : Program} : ∀ (n d : Nat) (t : TypeId) (m : Nat), n ≤ d → flatI P n t = some m → PartEq P d t m
  | 0, _, _, _, _, h => by simp [flatI] at h
  | n + 1, d, t, m, hd, h => by
    obtain ⟨d, rfl⟩ : ∃ d', d = d' + 1 := ⟨d - 1, by omega⟩
    intro w X Y off q hX hY hq
    unfold flatI at h
    split at h
    · rename_i k hu hs
      simp at h; subst h
      have hx : X.toList[off]? = some X[off] := by simp
      have hy : Y.toList[off]? = some Y[off] := by simp
      have e1 : (X.toList.drop off).take 1 = [X[off]] := by
        rw [List.take_one, List.head?_drop, hx]; rfl
      have e2 : (Y.toList.drop off).take 1 = [Y[off]] := by
        rw [List.take_one, List.head?_drop, hy]; rfl
      rw [e1, e2] at hq
      obtain ⟨k', a, b, h1, h2⟩ := eqVs_ints hq _ _ _ _ rfl rfl
      rw [h1, h2] at hq
      obtain ⟨_, q', hq', e⟩ := eqVs_cons hq
      simp [eqVs] at hq'
      subst hq'
      have ha : isAggB P t = some false := by simp [isAggB, hu]
      refine ⟨.int k' a, .int k' b, ?_, ?_, ?_⟩
      · unfold part
        rw [Sem.run_bind, run_isAggS ha]
        simp [show X[off]? = some (.int k' a) by rw [Array.getElem?_eq_getElem (by omega), h1]]
      · unfold part
        rw [Sem.run_bind, run_isAggS ha]
        simp [show Y[off]? = some (.int k' b) by rw [Array.getElem?_eq_getElem (by omega), h2]]
      · rw [run_equalIn_int w d t k' k a b hu, e]
        simp
    · rename_i k e s hu hs
      split at h
      · rename_i me hme
        split at h
        · rename_i hk
          simp at h; subst h
          have IH := eqFlat n d e me (by omega) hme
          have ha : isAggB P t = some true := by simp [isAggB, hu]
          unfold sizeT at hs
          split at hs
          · rename_i i hi
            simp at hs
            have hce : P.cellsOf e = me := by
              cases n with
              | zero => simp [flatI] at hme
              | succ n =>
                have : sizeT P e = some me := by
                  unfold flatI at hme
                  split at hme
                  · rename_i h1 h2; rw [h2]; exact hme
                  · rename_i h1 h2
                    split at hme
                    · split at hme
                      · rw [h2]; exact hme
                      · cases hme
                    · cases hme
                  · rename_i h1 h2
                    split at hme
                    · cases hme
                    · split at hme
                      · rw [h2]; exact hme
                      · cases hme
                  · cases hme
                unfold sizeT at this
                split at this
                · rename_i j hj
                  simp at this
                  simp [Program.cellsOf, hj, this]
                · cases this
            obtain ⟨ie, hie⟩ : ∃ ie, P.info? e = some ie := by
              cases hie : P.info? e with
              | none =>
                have : sizeT P e = none := by simp [sizeT, hie]
                cases n with
                | zero => simp [flatI] at hme
                | succ n => unfold flatI at hme; rw [this] at hme; split at hme <;> simp_all
              | some ie => exact ⟨ie, rfl⟩
            refine ⟨_, _, run_partAgg ha hi X off, run_partAgg ha hi Y off, ?_⟩
            rw [hs, run_equalIn_array w d _ _ hu hie, List.range_eq_range']
            refine items_eq hce IH w _ _ k 0 q ?_ ?_ ?_
            · simp; omega
            · simp; omega
            · simp only [Nat.zero_mul, List.drop_zero, hk]
              rw [extract_cut, extract_cut, List.take_take, List.take_take, Nat.min_self]
              exact hq
          · cases hs
        · cases h
      · cases h
    · rename_i fs s hu hs
      split at h
      · cases h
      · rename_i hst
        split at h
        · rename_i hf
          simp at h; subst h
          have IH : ∀ t m, flatI P n t = some m → PartEq P d t m := fun t m => eqFlat n d t m (by omega)
          have ha : isAggB P t = some true := by simp [isAggB, hu]
          unfold sizeT at hs
          split at hs
          · rename_i i hi
            simp at hs
            have hfs : P.fieldsOf t = fs := by simp [Program.fieldsOf, hu]
            refine ⟨_, _, run_partAgg ha hi X off, run_partAgg ha hi Y off, ?_⟩
            rw [hs, run_equalIn_struct w d t _ _ (by rw [hfs]; exact hu) (by simpa using hst), hfs]
            refine (fields_eq IH w _ _ 0 fs.toList 0 s q hf ?_ ?_ ?_).2
            · simp; omega
            · simp; omega
            · simp only [Nat.sub_zero, List.drop_zero]
              rw [extract_cut, extract_cut, List.take_take, List.take_take, Nat.min_self]
              exact hq
          · cases hs
        · cases h
    · cases h

theorem flatFs_guard {P : Program} {f : TypeId → Option Nat} {d : Nat} (IH : ∀ t m, f t = some m → P.eqGuardType d t = false) : ∀ (fs : List Field) (off s : Nat), flatFs P f off fs = some s → (fs.any fun x => x.name != "_" && P.eqGuardType d x.type) = false
  | [], _, _, _ => rfl
  | x :: l, off, s, h => by
    simp only [flatFs] at h
    split at h
    · rename_i m hm
      split at h
      · split at h
        · cases h
        · rw [List.any_cons, IH _ _ hm, flatFs_guard IH l _ _ h, Bool.and_false, Bool.or_false]
      · cases h
    · cases h

theorem flatI_guard {P : Program} : ∀ (n d : Nat) (t : TypeId) (m : Nat), n ≤ d → flatI P n t = some m → P.eqGuardType d t = false
  | 0, _, _, _, _, h => by simp [flatI] at h
  | n + 1, d, t, m, hd, h => by
    obtain ⟨d, rfl⟩ : ∃ d', d = d' + 1 := ⟨d - 1, by omega⟩
    unfold flatI at h
    split at h
    · rename_i k hu hs
      simp [Program.eqGuardType, hu]
    · rename_i k e s hu hs
      split at h
      · rename_i me hme
        simp only [Program.eqGuardType, hu]
        exact flatI_guard n d e me (by omega) hme
      · cases h
    · rename_i fs s hu hs
      split at h
      · cases h
      · split at h
        · rename_i hf
          simp only [Program.eqGuardType, hu]
          rw [← Array.any_toList]
          exact flatFs_guard (fun t m => flatI_guard n d t m (by omega)) fs.toList 0 s hf
        · cases h
    · cases h

theorem flatI_agg {P : Program} {n m : Nat} {t : TypeId} (h : flatI P n t = some m) : sizeT P t = some m := by
  cases n with
  | zero => simp [flatI] at h
  | succ n =>
    unfold flatI at h
    split at h
    · rename_i h1 h2; rw [h2]; exact h
    · rename_i h1 h2
      split at h
      · split at h
        · rw [h2]; exact h
        · cases h
      · cases h
    · rename_i h1 h2
      split at h
      · cases h
      · split at h
        · rw [h2]; exact h
        · cases h
    · cases h

/-- Two aggregates of whole numbers. -/
theorem eqAgg_run {A : Type} [Atom A] {β : Adr} {P : Program} {w : World} {op : BinOp} {t : TypeId} {x y : Operand} {l r : List (SV A)} {lit q : Bool} {xs ys : List Value} {n : Nat} (ha : isAggB P t = some true) (ht : flatI P 6 t = some n)
    (h : eqRows l r = some (lit, q)) (hl : l.length = n) (hx : LIs β l xs) (hy : LIs β r ys) :
    (Op.equal t (.agg xs.toArray) (.agg ys.toArray)).run P w = .ok q w ∧ (eqGuard op t x y (.agg xs.toArray) (.agg ys.toArray)).run P w = .ok () w := by
  obtain ⟨h1, h2⟩ := eqRows_vs h hx hy
  have h3 := eqVs_len h2
  obtain ⟨a, b, p1, p2, p3⟩ := eqFlat 6 10000 t n (by omega) ht w xs.toArray ys.toArray 0 q (by simp; omega) (by simp; omega) (by
    simp only [List.drop_zero]
    rw [List.take_of_length_le (by omega), List.take_of_length_le (by omega)]
    exact h2)
  have hs := flatI_agg ht
  unfold sizeT at hs
  split at hs
  · rename_i i hi
    simp at hs
    have g : ∀ zs : List Value, zs.length = n → zs.toArray.extract 0 (0 + i.size) = zs.toArray := by
      intro zs hz
      apply Array.toList_inj.1
      rw [extract_cut, hs]
      simp only [List.drop_zero]
      exact List.take_of_length_le (by omega)
    rw [run_partAgg ha hi, g xs (by omega)] at p1
    rw [run_partAgg ha hi, g ys (by omega)] at p2
    obtain rfl : Value.agg xs.toArray = a := by simpa using p1
    obtain rfl : Value.agg ys.toArray = b := by simpa using p2
    refine ⟨p3, ?_⟩
    have hg : P.eqGuardType P.depth t = false := by
      refine flatI_guard 6 _ t n ?_ ht
      unfold Program.depth Made.depth
      omega
    exact run_eqGuard_agg w op t x y _ _ hg
  · cases hs

end Go.Sh

/- What the operations on shadows say is what the operations on values do. -/
namespace Go.Sh
open Go.RowKit

/-- A fence that lets all by. -/
def Fr (r : Option Nat) : Fence := { Fence.wide with round := r }

theorem callsIn_fr {r : Option Nat} {n : Nat} {P : Program} {f : FuncId} {args : Array Value} {w : World} {R : Ending → World → Prop} (h : Calls P f args w R) : CallsIn (Fr r) n P f args w R :=
  ⟨trivial, fun cs hr => (callsIn_wide.2 h : CallsIn Fence.wide n P f args w R).2 cs (fun d hd => by simp [Fence.wide] at hd)⟩

/-- An operation that yields. -/
def Yld (r : Option Nat) (n : Nat) (P : Program) (o : Oper) (a : Act) (W : World) (post : Value → World → Prop) : Prop :=
  ∀ (next : Act → World → Prop) (Q : Exit → Act → World → Prop), (∀ v W', post v W' → next (a.put o.dst v) W') → o.wpIn (Fr r) n P a W next Q

section
variable {r : Option Nat} {n : Nat} {P : Program} {o : Oper} {a : Act} {W W' : World} {post : Value → World → Prop}

theorem Yld.mono {post' : Value → World → Prop} (h : Yld r n P o a W post) (hp : ∀ v W', post v W' → post' v W') : Yld r n P o a W post' :=
  fun next Q hn => h next Q (fun v W' hv => hn v W' (hp v W' hv))

theorem yld_value {v : Value} (hd : ∀ c, o.op ≠ .defer c) (h : (execOp a.eval o).run P W = .ok (.value v) W') (hp : post v W') : Yld r n P o a W post := by
  intro next Q hn
  refine ⟨fun _ _ => trivial, ?_⟩
  rw [Oper.semAt_eq _ _ _ hd, h]
  exact hn v W' hp

theorem yld_skip (hd : ∀ c, o.op ≠ .defer c) (h : (execOp a.eval o).run P W = .ok .skip W') (hp : post undef W') : Yld r n P o a W post := by
  intro next Q hn
  refine ⟨fun _ _ => trivial, ?_⟩
  rw [Oper.semAt_eq _ _ _ hd, h]
  exact hn undef W' hp

theorem yld_enter {f : FuncId} {args : Array Value} (hd : ∀ c, o.op ≠ .defer c) (h : (execOp a.eval o).run P W = .ok (.enter f args) W')
    (hc : Calls P f args W' (fun e W'' => ∃ v, e = .returned v ∧ post v W'')) : Yld r n P o a W post := by
  intro next Q hn
  refine ⟨fun _ _ => trivial, ?_⟩
  rw [Oper.semAt_eq _ _ _ hd, h]
  refine ⟨fun hx => by simp [Fr, Fence.wide] at hx, (callsIn_fr hc).mono ?_⟩
  rintro e W'' ⟨v, rfl, hv⟩
  exact hn v W'' hv

/-- A call of function g: it runs here and now, or it is entered. -/
def CallSem (P : Program) (g : FuncId) (vs : List Value) (W : World) (post : Value → World → Prop) : Prop :=
  (∃ v, (callFunc g vs.toArray).run P W = .ok (.value v) W ∧ post v W) ∨
  ((callFunc g vs.toArray).run P W = .ok (.enter g vs.toArray) W ∧ Calls P g vs.toArray W (fun e W' => ∃ v, e = .returned v ∧ post v W'))

end

section
variable {A : Type} [Atom A]

/-- The table of calls is right. -/
def CallsOK (c : Cfg A) : Prop :=
  ∀ (g : FuncId) (args : List (TV A)) (m : Mem A) (res : TV A) (mm : Option (Mem A)) (vc : List Prop), c.call g args m = some (res, mm, vc) → (∀ p ∈ vc, p) →
    ∀ (X : Nat → Prop) (W0 W : World) (β : Adr) (vs : List Value), MRel c X W0 β m W → TsIs β args vs →
      match mm with
      | none => CallSem c.P g vs W (fun v W' => ∃ K, Fresh W W' K ∧ res.Is (β.know K) v ∧ Keeps W W')
      | some m' => Top β m → CallSem c.P g vs W (fun v W' => ∃ β', Adr.le β β' ∧ res.Is β' v ∧ MRel c X W0 β' m' W' ∧ Top β' m' ∧ NC W W')

section runs
variable {P : Program} {w : World} {β : Adr}

theorem run_isAgg {t : TypeId} {b : Bool} (h : isAggB P t = some b) : (isAgg t).run P w = .ok b w := by
  unfold isAggB at h
  unfold isAgg
  cases hu : P.underlying t with
  | none => simp [hu] at h
  | some d =>
    rw [Sem.run_bind, run_underlying hu w]
    simp only [hu] at h
    cases d <;> simp_all

theorem run_sizeT {t : TypeId} {k : Nat} (h : sizeT P t = some k) : (sizeOf t).run P w = .ok k w := by
  unfold sizeT at h
  split at h
  · rename_i i hi
    simp at h; subst h
    simp [sizeOf, typeInfo, hi]
  · cases h

theorem run_zeroT {t : TypeId} {cells : List (SV A)} (h : zeroT P t = some cells) : ∃ v, (zeroValue t).run P w = .ok v w ∧ LIs β cells v.cells.toList := by
  unfold zeroT at h
  split at h
  · rename_i i hi
    split at h
    · rename_i v hz
      split at h
      · rename_i hall
        simp at h; subst h
        exact ⟨v, by simp [zeroValue, typeInfo, hi, hz], LIs.vs (fun x hx => List.all_eq_true.1 hall x hx)⟩
      · cases h
    · cases h
  · cases h

theorem run_partV {t : TypeId} {l : List (SV A)} {off : Nat} {tv : TV A} {vs : List Value} (h : partV P t l off = some tv) (hl : LIs β l vs) :
    ∃ v, (part t vs.toArray off).run P w = .ok v w ∧ tv.Is β v := by
  unfold partV at h
  split at h
  · rename_i k ha hs
    split at h
    · rename_i x hx
      simp at h; subst h
      obtain ⟨h1, h2⟩ := cut_is hl hx
      refine ⟨.agg ((vs.drop off).take k).toArray, ?_, ⟨_, h1, rfl⟩⟩
      unfold part
      rw [Sem.run_bind, run_isAgg ha]
      simp only [Result.andThen_ok, if_true, Sem.run_bind, run_sizeT hs, Sem.run_pure]
      congr 2
      simp only [List.extract_toArray, List.extract_eq_take_drop]
      congr 2
      omega
    · cases h
  · rename_i ha _
    split at h
    · rename_i x hx
      simp at h; subst h
      obtain ⟨h1, h2⟩ := cut_is hl hx
      have hlt : off < vs.length := by omega
      have e : (vs.drop off).take 1 = [vs[off]] := by
        rw [List.drop_eq_getElem_cons hlt]; rfl
      rw [e] at h1
      refine ⟨vs[off], ?_, h1⟩
      unfold part
      rw [Sem.run_bind, run_isAgg ha]
      simp [hlt]
    · cases h
  · cases h

theorem add_none (b off k : Nat) : (⟨b, off, none⟩ : Addr).add k = ⟨b, off + k, none⟩ := by
  unfold Addr.add; split <;> simp_all

theorem run_loadPart {t : TypeId} {l : List (SV A)} {off b : Nat} {tv : TV A} {vs : List Value} {ty : TypeId} {fz : Nat × Nat} (h : partV P t l off = some tv) (hl : LIs β l vs)
    (hb : w.heap[b]? = some (.cells vs.toArray ty fz)) : ∃ v, (loadVar t ⟨b, off, none⟩).run P w = .ok v w ∧ tv.Is β v := by
  unfold partV at h
  split at h
  · rename_i k ha hs
    split at h
    · rename_i x hx
      simp at h; subst h
      obtain ⟨h1, h2⟩ := cut_is hl hx
      refine ⟨.agg ((vs.drop off).take k).toArray, ?_, ⟨_, h1, rfl⟩⟩
      unfold loadVar
      rw [Sem.run_bind, run_isAgg ha]
      simp only [Result.andThen_ok, if_true, Sem.run_bind, run_sizeT hs, Sem.run_pure]
      have hlen : ((vs.drop off).take k).length = k := by simp; omega
      have := run_loadCells_list (P := P) w ⟨b, off, none⟩ ((vs.drop off).take k) (fun j v hv => by
        rw [add_none, cell_of_row w b (off + j) _ ty fz hb]
        rw [List.getElem?_take] at hv
        split at hv
        · simpa [List.getElem?_drop] using hv
        · cases hv)
      rw [hlen] at this
      rw [this]
      rfl
    · cases h
  · rename_i ha _
    split at h
    · rename_i x hx
      simp at h; subst h
      obtain ⟨h1, h2⟩ := cut_is hl hx
      have hlt : off < vs.length := by omega
      have e : (vs.drop off).take 1 = [vs[off]] := by
        rw [List.drop_eq_getElem_cons hlt]; rfl
      rw [e] at h1
      refine ⟨vs[off], ?_, h1⟩
      unfold loadVar
      rw [Sem.run_bind, run_isAgg ha]
      simp only [Result.andThen_ok, Bool.false_eq_true, if_false]
      rw [run_load, cell_of_row w b off _ ty fz hb]
      simp [hlt]
    · cases h
  · cases h

theorem run_storePart {t : TypeId} {off b : Nat} {v : Value} {vs : List Value} {ty : TypeId} (hs : sizeT P t = some v.cells.toList.length)
    (hb : w.heap[b]? = some (.cells vs.toArray ty (0, 0))) (hl : off + v.cells.toList.length ≤ vs.length) (h1 : ∀ x ∈ v.cells.toList, x.oneCell' = true) :
    (storeVar t ⟨b, off, none⟩ v).run P w = .ok () (w.setRow b (vs.take off ++ v.cells.toList ++ vs.drop (off + v.cells.toList.length)).toArray) := by
  unfold storeVar
  rw [Sem.run_bind, run_sizeT hs]
  simp only [Result.andThen_ok, Array.length_toList]
  have := run_storeCells_at (P := P) b off ty v.cells.toList 0 vs.toArray w hb (by simpa using hl) h1
  simpa using this

end runs

section bins
variable {P : Program} {w : World} {β : Adr}

theorem arith_run {op : BinOp} {k : IntKind} {x y z : Int} (t : TypeId) (h1 : op ≠ .shl) (h2 : op ≠ .shr) (h : arith op k x y = some z) :
    (binOp op t (.int k x) (.int k y)).run P w = .ok (.int k (k.wrap z)) w := by
  cases op <;> simp_all [arith, binOp, Op.intArith, Op.intBits] <;> (subst h; rfl)

theorem compare_run {op : BinOp} {k : IntKind} {x y : Int} {z : Bool} (t : TypeId) (h : compare op x y = some z) :
    (binOp op t (.int k x) (.int k y)).run P w = .ok (.bool z) w := by
  cases op <;> simp_all [compare, binOp, Op.intCmp]

theorem shift_run {op : BinOp} {k k' : IntKind} {x : Int} {m : Nat} {s r : SV A} {lit ly : Bool} (t : TypeId) (h : isShift op = true) (hs : intOfSV s = some (lit, k, x)) (e : shiftK op s lit k x ly m = some r) :
    ∃ z, (binOp op t (.int k x) (.int k' (m : Int))).run P w = .ok (.int k z) w ∧ r.Is β [.int k z] := by
  have h0 : ¬ ((m : Int) < 0) := by omega
  unfold shiftK at e
  split at e
  · simp at e
    subst e
    exact ⟨_, by simp [binOp, Op.shift, h0], mkW_is ..⟩
  · refine ⟨x.fdiv (2 ^ min m k.bits), by simp [binOp, Op.shift, h0], ?_⟩
    split at e
    · simp at e; subst e
      split
      · exact ⟨rfl, rfl⟩
      · exact rfl
    · rename_i z
      split at e
      · rename_i z' hz'
        simp at e; subst e
        simp only [intOfSV] at hs
        split at hs
        · rename_i k1 z1 hz1
          simp at hs
          obtain ⟨_, rfl, rfl⟩ := hs
          exact (Atom.shr_ok hz' hz1).symm
        · cases hs
      · simp at e; subst e; exact rfl
    · simp at e; subst e; exact rfl
  · cases e

theorem guard_ints (op : BinOp) (t : TypeId) (x y : Operand) (k k' : IntKind) (a b : Int) : (eqGuard op t x y (.int k a) (.int k' b)).run P w = .ok () w := by
  unfold eqGuard
  split <;> simp

theorem fnEq_run {op : BinOp} {t : TypeId} {x y : Operand} {a b : Bool} {tv : TV A} {u v : Value} {p : Array TypeId} {q : Array TypeId} {s : Bool} (hu : P.underlying t = some (.func p q s)) (hx : (a = true ∧ u = .nilFunc) ∨ (a = false ∧ ∃ f x y, u = .func f x y)) (hy : (b = true ∧ v = .nilFunc) ∨ (b = false ∧ ∃ f x y, v = .func f x y))
    (h : (match a || b, op with | true, .eql => some (.val false [.v (.bool (a && b))]) | true, .neq => some (.val false [.v (.bool (!(a && b)))]) | _, _ => none) = some tv) :
    ∃ z, (eqGuard op t x y u v).run P w = .ok () w ∧ (binOp op t u v).run P w = .ok z w ∧ tv.Is β z := by
  have e1 : ∀ d, (Op.equalIn (d + 1) t .nilFunc .nilFunc).run P w = .ok true w := fun d => by simp [Op.equalIn, run_underlying hu]
  have e2 : ∀ d f x y, (Op.equalIn (d + 1) t .nilFunc (.func f x y)).run P w = .ok false w := fun d f x y => by simp [Op.equalIn, run_underlying hu]
  have e3 : ∀ d f x y, (Op.equalIn (d + 1) t (.func f x y) .nilFunc).run P w = .ok false w := fun d f x y => by simp [Op.equalIn, run_underlying hu]
  have key : (eqGuard op t x y u v).run P w = .ok () w ∧ ((a || b) = true → (Op.equal t u v).run P w = .ok (a && b) w) ∧ (binOp .eql t u v = (do pure (.bool (← Op.equal t u v)))) ∧ (binOp .neq t u v = (do pure (.bool (!(← Op.equal t u v))))) := by
    rcases hx with ⟨rfl, rfl⟩ | ⟨rfl, f1, x1, y1, rfl⟩ <;> rcases hy with ⟨rfl, rfl⟩ | ⟨rfl, f2, x2, y2, rfl⟩
    · exact ⟨by unfold eqGuard; split <;> simp, fun _ => e1 9999, rfl, rfl⟩
    · exact ⟨by unfold eqGuard; split <;> simp, fun _ => e2 9999 _ _ _, rfl, rfl⟩
    · exact ⟨by unfold eqGuard; split <;> simp, fun _ => e3 9999 _ _ _, rfl, rfl⟩
    · exact ⟨by unfold eqGuard; split <;> simp, (fun h => absurd h (by decide)), rfl, rfl⟩
  obtain ⟨k1, k2, k3, k4⟩ := key
  split at h
  · rename_i hab
    obtain rfl := Option.some.inj h
    exact ⟨_, k1, by rw [k3, Sem.run_bind, k2 hab]; rfl, LIs.of_single ⟨rfl, rfl⟩⟩
  · rename_i hab
    obtain rfl := Option.some.inj h
    exact ⟨_, k1, by rw [k4, Sem.run_bind, k2 hab]; rfl, LIs.of_single ⟨rfl, rfl⟩⟩
  · cases h

theorem binV_run {op : BinOp} {t : TypeId} {x y : Operand} {xv yv tv : TV A} {u v : Value} (h : binV P op t xv yv = some tv) (hx : xv.Is β u) (hy : yv.Is β v) :
    ∃ z, (eqGuard op t x y u v).run P w = .ok () w ∧ (binOp op t u v).run P w = .ok z w ∧ tv.Is β z := by
  unfold binV at h
  split at h
  · rename_i x' y'
    have hx1 := LIs.single hx
    have hy1 := LIs.single hy
    split at h
    · rename_i lx kx a ly ky b h1 h2
      have eu := intOfSV_is hx1 h1
      have ev := intOfSV_is hy1 h2
      subst eu; subst ev
      split at h
      · cases h
      · cases h
      · rename_i ho1 ho2
        split at h
        · rename_i hk
          subst hk
          split at h
          · rename_i r hr
            simp at h; subst h
            exact ⟨_, guard_ints .., arith_run t ho1 ho2 hr, LIs.of_single (mkW_is ..)⟩
          · split at h
            · rename_i r hr
              simp at h; subst h
              exact ⟨_, guard_ints .., compare_run t hr, LIs.of_single (mkB_is ..)⟩
            · cases h
        · cases h
    · split at h
      · rename_i a b h1 h2
        obtain ⟨b1, rfl, rfl⟩ := txOf_is hx1 h1
        obtain ⟨b2, rfl, rfl⟩ := txOf_is hy1 h2
        have gd : (eqGuard op t x y (.string b1) (.string b2)).run P w = .ok () w := by
          unfold eqGuard
          split <;> simp
        split at h
        · obtain rfl := Option.some.inj h
          exact ⟨_, gd, by simp [binOp, Op.stringOp], LIs.of_single rfl⟩
        · obtain rfl := Option.some.inj h
          exact ⟨_, gd, by simp [binOp, Op.stringOp], LIs.of_single rfl⟩
        · cases h
      split at h
      · rename_i lx a ly b h1 h2 hu
        have eu := boolSV_is hx1 h1
        have ev := boolSV_is hy1 h2
        subst eu; subst ev
        have eq : (Op.equal t (.bool a) (.bool b)).run P w = .ok (a == b) w := run_equalIn_bool' w 9999 t a b hu
        have gd : (eqGuard op t x y (.bool a) (.bool b)).run P w = .ok () w := by
          unfold eqGuard
          split <;> simp
        split at h
        · simp at h; subst h
          exact ⟨_, gd, by simp only [binOp, Sem.run_bind, eq, Result.andThen_ok, Sem.run_pure], LIs.of_single (mkB_is ..)⟩
        · obtain rfl := Option.some.inj h
          exact ⟨_, gd, by simp only [binOp, Sem.run_bind, eq, Result.andThen_ok, Sem.run_pure], LIs.of_single (mkB_is ..)⟩
        · cases h
      · rename_i hu
        split at h
        · rename_i a b h1 h2
          exact fnEq_run hu (fnOf_is hx1 h1) (fnOf_is hy1 h2) h
        · cases h
      · cases h
  · rename_i l r
    obtain ⟨xs, hxs, rfl⟩ := hx
    obtain ⟨ys, hys, rfl⟩ := hy
    split at h
    · rename_i n lit q hb ht hq
      split at h
      · rename_i hl
        simp at h; subst h
        have := eqAgg_run (P := P) (w := w) (op := .eql) (x := x) (y := y) hb ht hq hl (flat_is hxs) (flat_is hys)
        exact ⟨.bool q, this.2, by simp [binOp, this.1], LIs.of_single (mkB_is ..)⟩
      · cases h
    · rename_i n lit q hb ht hq
      split at h
      · rename_i hl
        simp at h; subst h
        have := eqAgg_run (P := P) (w := w) (op := .neq) (x := x) (y := y) hb ht hq hl (flat_is hxs) (flat_is hys)
        exact ⟨.bool !q, this.2, by simp [binOp, this.1], LIs.of_single (mkB_is ..)⟩
      · cases h
    · cases h
  · cases h

theorem divV_run {op : BinOp} {t : TypeId} {x y : Operand} {xv yv tv : TV A} {vc : List Prop} {u v : Value} (h : divV op xv yv = some (tv, vc)) (hvc : ∀ p ∈ vc, p) (hx : xv.Is β u) (hy : yv.Is β v) :
    ∃ z, (eqGuard op t x y u v).run P w = .ok () w ∧ (binOp op t u v).run P w = .ok z w ∧ tv.Is β z := by
  unfold divV at h
  split at h
  · rename_i x' y'
    have hx1 := LIs.single hx
    have hy1 := LIs.single hy
    split at h
    · rename_i lx kx a ly ky b h1 h2
      have eu := intOfSV_is hx1 h1
      have ev := intOfSV_is hy1 h2
      subst eu; subst ev
      split at h
      · rename_i hsh
        split at h
        · split at h
          · rename_i m hm
            have hm' := natOf_eq hm
            subst hm'
            split at h
            · rename_i r hr
              simp at h; obtain ⟨rfl, rfl⟩ := h
              obtain ⟨z, k1, k2⟩ := shift_run (P := P) (w := w) (β := β) (k' := ky) t hsh h1 hr
              exact ⟨_, guard_ints .., k1, LIs.of_single k2⟩
            · cases h
          · cases h
        · split at h
          · rename_i r hr
            simp at h; obtain ⟨rfl, rfl⟩ := h
            have hb : 0 ≤ b := hvc _ (by simp)
            obtain ⟨z, k1, k2⟩ := shift_run (P := P) (w := w) (β := β) (k' := ky) t hsh h1 hr
            rw [Int.toNat_of_nonneg hb] at k1
            exact ⟨_, guard_ints .., k1, LIs.of_single k2⟩
          · cases h
      split at h
      · rename_i hk
        subst hk
        have quo : b ≠ 0 → (binOp .quo t (.int kx a) (.int kx b)).run P w = .ok (.int kx (kx.wrap (a.tdiv b))) w := fun h0 => by simp [binOp, Op.intDiv, h0]
        have rem : b ≠ 0 → (binOp .rem t (.int kx a) (.int kx b)).run P w = .ok (.int kx (a.tmod b)) w := fun h0 => by simp [binOp, Op.intDiv, h0]
        split at h
        · split at h
          · split at h
            · cases h
            · rename_i h0
              simp at h
              obtain ⟨rfl, rfl⟩ := h
              exact ⟨_, guard_ints .., quo h0, LIs.of_single (mkW_is ..)⟩
          · simp at h
            obtain ⟨rfl, rfl⟩ := h
            exact ⟨_, guard_ints .., quo (hvc _ (by simp)), LIs.of_single (mkW_is ..)⟩
        · split at h
          · split at h
            · cases h
            · rename_i h0
              simp at h
              obtain ⟨rfl, rfl⟩ := h
              exact ⟨_, guard_ints .., rem h0, LIs.of_single ⟨rfl, rfl⟩⟩
          · split at h
            · rename_i y hy
              simp at h
              obtain ⟨rfl, rfl⟩ := h
              have h3 := hvc (b ≠ 0 ∧ kx.wrap (a.tmod b) = a.tmod b) (by simp)
              refine ⟨_, guard_ints .., rem h3.1, LIs.of_single ?_⟩
              have h4 := Atom.wrap_ok hy
              rw [h3.2] at h4
              exact h4.symm
            · split at h
              · split at h
                · cases h
                · rename_i h0
                  simp at h
                  obtain ⟨rfl, rfl⟩ := h
                  exact ⟨_, guard_ints .., rem h0, LIs.of_single rfl⟩
              · simp at h
                obtain ⟨rfl, rfl⟩ := h
                exact ⟨_, guard_ints .., rem (hvc (b ≠ 0) (by simp)), LIs.of_single rfl⟩
        · cases h
      · cases h
    · cases h
  · cases h

theorem extV_run {mx : Bool} {l : List (TV A)} {tv : TV A} {vs : List Value} (h : extV mx l = some tv) (hl : TsIs β l vs) (a t : Array TypeId) (ty : TypeId) :
    ∃ z, (match mx with | true => Builtin.max_ a ty vs.toArray | false => Builtin.min_ t ty vs.toArray : Sem Value).run P w = .ok z w ∧ tv.Is β z := by
  unfold extV at h
  split at h
  · rename_i x y
    obtain ⟨u, r, hu, ⟨v, r', hv, e, rfl⟩, rfl⟩ := hl
    obtain rfl : r' = [] := e
    split at h
    · rename_i lx kx a' ly ky b h1 h2
      simp at h; subst h
      have eu := intOfSV_is (LIs.single hu) h1
      have ev := intOfSV_is (LIs.single hv) h2
      subst eu; subst ev
      cases mx
      · refine ⟨.int kx (if b < a' then b else a'), by simp [Builtin.min_, Builtin.min2], LIs.of_single ?_⟩
        simp only [Bool.false_eq_true, if_false]
        split
        · exact ⟨rfl, rfl⟩
        · exact rfl
      · refine ⟨.int kx (if b > a' then b else a'), by simp [Builtin.max_, Builtin.max2], LIs.of_single ?_⟩
        simp only [if_true]
        split
        · exact ⟨rfl, rfl⟩
        · exact rfl
    · cases h
  · cases h

theorem unV_run {op : UnOp} {xv tv : TV A} {u : Value} (h : unV op xv = some tv) (hx : xv.Is β u) : ∃ z, (Op.unary op u).run P w = .ok z w ∧ tv.Is β z := by
  unfold unV at h
  split at h
  · rename_i b
    obtain ⟨e, _⟩ := LIs.single hx
    simp at e; subst e
    split at h
    · simp at h; subst h
      exact ⟨.bool !b, by simp [Op.unary], LIs.of_single ⟨rfl, rfl⟩⟩
    · cases h
  · rename_i b
    have e := LIs.single hx
    simp [SV.Is] at e; subst e
    split at h
    · simp at h; subst h
      exact ⟨.bool !b, by simp [Op.unary], LIs.of_single rfl⟩
    · cases h
  · rename_i s _ _
    split at h
    · rename_i l k a hs
      have e := intOfSV_is (LIs.single hx) hs
      subst e
      split at h
      · obtain rfl := Option.some.inj h
        exact ⟨_, by simp only [Op.unary, Op.intArith, Sem.run_pure], LIs.of_single (mkW_is ..)⟩
      · obtain rfl := Option.some.inj h
        exact ⟨_, by simp only [Op.unary, Op.intBits, Sem.run_pure], LIs.of_single (mkW_is ..)⟩
      · cases h
    · cases h
  · cases h

theorem numOf_is {t : TV A} {v : Value} {l : Bool} {z : Int} (h : t.Is β v) (e : numOf t = some (l, z)) : ∃ k, v = .int k z := by
  unfold numOf at e
  split at e
  · split at e
    · rename_i l' k z' hs
      simp at e
      obtain ⟨_, rfl⟩ := e
      exact ⟨k, intOfSV_is (LIs.single h) hs⟩
    · cases e
  · cases e

theorem Addr.add_add (a : Addr) (i j : Nat) : (a.add i).add j = a.add (i + j) := by
  unfold Addr.add
  by_cases hi : i = 0
  · subst hi; simp
  · by_cases hj : j = 0
    · subst hj; simp [hi]
    · simp [hi, hj, Nat.add_assoc]

theorem indexAddrV_run {t : TypeId} {xv iv tv : TV A} {vc : List Prop} {u v : Value} (h : indexAddrV P t xv iv = some (tv, vc)) (hvc : ∀ p ∈ vc, p) (hx : xv.Is β u) (hi : iv.Is β v) :
    ∃ z, (Instr.indexAt t u v).run P w = .ok z w ∧ tv.Is β z := by
  unfold indexAddrV at h
  split at h
  · rename_i lit z hz
    obtain ⟨kk, rfl⟩ := numOf_is hi hz
    split at h
    · rename_i len e i off hu
      obtain ⟨b, hb, ex⟩ := LIs.single (hx : LIs β _ [u])
      simp at ex; subst ex
      split at h
      · rename_i sz hs
        split at h
        · split at h
          · rename_i k hk
            have hzk := natOf_eq hk
            subst hzk
            split at h
            · rename_i hlt
              simp at h; obtain ⟨rfl, rfl⟩ := h
              have h1 : (0 : Int) ≤ k ∧ (k : Int) < len := by omega
              exact ⟨.pointer (some ⟨b, off + k * sz, none⟩), by simp [Instr.indexAt, run_underlying hu, asIntOf, Instr.sureAddr, h1, run_sizeT hs, add_none, hlt], LIs.of_single ⟨b, hb, rfl⟩⟩
            · cases h
          · cases h
        · split at h
          · rename_i hs1
            simp at h; obtain ⟨rfl, rfl⟩ := h
            subst hs1
            have h1 := hvc (0 ≤ z ∧ z < len) (by simp)
            exact ⟨.pointer (some ⟨b, off + z.toNat, none⟩), by simp [Instr.indexAt, run_underlying hu, asIntOf, Instr.sureAddr, h1, run_sizeT hs, add_none], LIs.of_single ⟨by omega, b, hb, rfl⟩⟩
          · cases h
      · cases h
    · rename_i e i off len cap hu
      obtain ⟨b, hb, ex⟩ := LIs.single (hx : LIs β _ [u])
      simp at ex; subst ex
      split at h
      · rename_i sz hs
        split at h
        · split at h
          · rename_i k hk
            have hzk := natOf_eq hk
            subst hzk
            split at h
            · rename_i hlt
              simp at h; obtain ⟨rfl, rfl⟩ := h
              have h1 : (0 : Int) ≤ k ∧ (k : Int) < len := by omega
              exact ⟨.pointer (some ⟨b, off + k * sz, none⟩), by simp [Instr.indexAt, run_underlying hu, asIntOf, h1, run_sizeT hs, add_none, hlt], LIs.of_single ⟨b, hb, rfl⟩⟩
            · cases h
          · cases h
        · split at h
          · rename_i hs1
            simp at h; obtain ⟨rfl, rfl⟩ := h
            subst hs1
            have h1 := hvc (0 ≤ z ∧ z < len) (by simp)
            exact ⟨.pointer (some ⟨b, off + z.toNat, none⟩), by simp [Instr.indexAt, run_underlying hu, asIntOf, h1, run_sizeT hs, add_none], LIs.of_single ⟨by omega, b, hb, rfl⟩⟩
          · cases h
      · cases h
    · rename_i e a f i len cap hu
      split at h
      · rename_i sz hs
        simp at h; obtain ⟨rfl, rfl⟩ := h
        have h1 := hvc (0 ≤ z ∧ z < len) (by simp)
        have ex := LIs.single (hx : LIs β _ [u])
        cases a with
        | none => obtain ⟨h2, _, _⟩ := ex; omega
        | some b =>
          obtain ⟨p, hp, hnc, e1⟩ := ex
          simp at e1; subst e1
          have := hp (by omega)
          subst this
          exact ⟨.pointer (some (b.add (timesN z.toNat sz + i))), by simp [Instr.indexAt, run_underlying hu, asIntOf, h1, run_sizeT hs, Addr.add_add, timesN_eq, Nat.add_comm], LIs.of_single ⟨b, rfl, rfl⟩⟩
      · cases h
    · rename_i e f i len sz' hu
      split at h
      · rename_i sz hs
        split at h
        · rename_i he
          simp at h; obtain ⟨rfl, rfl⟩ := h
          subst he
          have h1 := hvc (0 ≤ z ∧ z < len) (by simp)
          have ex : knownIs β f i len sz [u] := LIs.single (hx : LIs β _ [u])
          rcases ex with ⟨h2, _⟩ | ⟨p, cp, e1, hnc, hk⟩
          · omega
          · simp at e1; subst e1
            refine ⟨.pointer (some (p.add (timesN z.toNat sz))), by simp [Instr.indexAt, run_underlying hu, asIntOf, h1, run_sizeT hs, timesN_eq], LIs.of_single ⟨_, rfl, fun j hj => ?_⟩⟩
            have hlt : z.toNat * sz + j < len * sz := by
              have : (z.toNat + 1) * sz ≤ len * sz := Nat.mul_le_mul_right _ (by omega)
              rw [Nat.succ_mul] at this
              omega
            obtain ⟨v, k1, k2⟩ := hk (timesN z.toNat sz + j) (by rw [timesN_eq]; exact hlt)
            refine ⟨v, by rw [Addr.add_add]; exact k1, ?_⟩
            rw [show timesN z.toNat sz + i + j = i + (timesN z.toNat sz + j) by omega]
            exact k2
        · cases h
      · cases h
    · rename_i len e a f i hu
      split at h
      · rename_i sz hs
        simp at h; obtain ⟨rfl, rfl⟩ := h
        have h1 := hvc (0 ≤ z ∧ z < len) (by simp)
        obtain ⟨b, hb, ex⟩ := LIs.single (hx : LIs β _ [u])
        obtain rfl := Option.some.inj hb
        simp at ex; subst ex
        exact ⟨.pointer (some (a.add (timesN z.toNat sz + i))), by simp [Instr.indexAt, run_underlying hu, asIntOf, Instr.sureAddr, h1, run_sizeT hs, Addr.add_add, timesN_eq, Nat.add_comm], LIs.of_single ⟨a, rfl, rfl⟩⟩
      · cases h
    · cases h
  · cases h

theorem rowGet_is {l : List (SV A)} {vs : List Value} {n z : Nat} {y : SV A} (h : rowGet l n z = some y) (hl : LIs β l vs) (hz : z < n) : ∃ v, vs[z]? = some v ∧ y.Is β [v] := by
  unfold rowGet at h
  split at h
  · rename_i row hr
    split at h
    · rename_i hs
      split at h
      · rename_i a ha
        simp at h; subst h
        obtain ⟨v, h1, h2⟩ := Atom.get_ok ha (by omega)
        rw [rowA_is hl hr]
        exact ⟨v, h1, h2.symm⟩
      · cases h
    · cases h
  · cases h

theorem run_partAt {e : TypeId} {vs : List Value} {i : Nat} {v : Value} (ha : isAggB P e = some false) (hv : vs[i]? = some v) : (part e vs.toArray i).run P w = .ok v w := by
  unfold part
  rw [Sem.run_bind, run_isAgg ha]
  simp [hv]

theorem indexV_run {t : TypeId} {xv iv tv : TV A} {vc : List Prop} {u v : Value} (h : indexV P t xv iv = some (tv, vc)) (hvc : ∀ p ∈ vc, p) (hx : xv.Is β u) (hi : iv.Is β v) :
    ∃ z, (Instr.index t u v).run P w = .ok z w ∧ tv.Is β z := by
  unfold indexV at h
  split at h
  · rename_i lit z hz
    obtain ⟨kk, rfl⟩ := numOf_is hi hz
    split at h
    · rename_i len e l hu
      obtain ⟨vs, hvs, rfl⟩ := (hx : VIs β true l u)
      split at h
      · rename_i sz hs
        split at h
        · split at h
          · rename_i k hk
            have hzk := natOf_eq hk
            subst hzk
            split at h
            · rename_i hlt
              split at h
              · rename_i y hy
                simp at h; obtain ⟨rfl, rfl⟩ := h
                obtain ⟨x, hx1, hx2⟩ := run_partV (P := P) (w := w) hy hvs
                have h1 : (0 : Int) ≤ k ∧ (k : Int) < len := by omega
                exact ⟨x, by simp [Instr.index, run_underlying hu, asIntOf, h1, run_sizeT hs, hx1, hlt], hx2⟩
              · cases h
            · cases h
          · cases h
        · split at h
          · rename_i y ha hg
            split at h
            · rename_i hs1
              subst hs1
              simp at h; obtain ⟨rfl, rfl⟩ := h
              have h1 := hvc (0 ≤ z ∧ z < len) (by simp)
              obtain ⟨x, hx1, hx2⟩ := rowGet_is hg hvs (by omega)
              exact ⟨x, by simp [Instr.index, run_underlying hu, asIntOf, h1, run_sizeT hs, run_partAt ha hx1], LIs.of_single hx2⟩
            · cases h
          · cases h
      · cases h
    · rename_i s hu
      split at h
      · split at h
        · rename_i k hk
          have hzk := natOf_eq hk
          subst hzk
          split at h
          · rename_i b hb
            simp at h; obtain ⟨rfl, rfl⟩ := h
            have ex := LIs.single (hx : LIs β _ [u])
            obtain ⟨ex, _⟩ := ex
            simp at ex; subst ex
            rw [nth_eq] at hb
            have hb' : s[k]? = some b := by
              obtain ⟨hlt, hb⟩ := List.getElem?_eq_some_iff.1 hb
              have hlt' : k < s.size := by simpa using hlt
              rw [getElem?_pos s k hlt']
              congr 1
            exact ⟨.int .u8 b.toNat, by simp [Instr.index, run_underlying hu, asIntOf, hb'], LIs.of_single ⟨rfl, rfl⟩⟩
          · cases h
        · cases h
      · split at h
        · rename_i b hb
          simp at h; obtain ⟨rfl, rfl⟩ := h
          obtain ⟨h1, h2⟩ := hvc (0 ≤ z ∧ z < s.data.toList.length) (by simp)
          have ex := LIs.single (hx : LIs β _ [u])
          obtain ⟨ex, _⟩ := ex
          simp at ex; subst ex
          obtain ⟨n, rfl⟩ := Int.eq_ofNat_of_zero_le h1
          have hlt : n < s.data.toList.length := by omega
          have hlt' : n < s.size := hlt
          have hb' : s[n]? = some (s.data.toList.getD n 0) := by
            rw [getElem?_pos s n hlt', List.getD_eq_getElem?_getD, List.getElem?_eq_getElem hlt]
            rfl
          have hw := Atom.wrap_ok hb
          rw [Int.toNat_natCast] at hw
          obtain ⟨c, hc⟩ : ∃ c, c = s.data.toList.getD n 0 := ⟨_, rfl⟩
          rw [← hc] at hb' hw
          have hsmall : c.toNat < 256 := c.toNat_lt
          have hwr : IntKind.u8.wrap (c.toNat : Int) = (c.toNat : Int) := by
            simp only [IntKind.wrap, IntKind.bits, IntKind.signed]
            have e : (2 : Int) ^ 8 = 256 := by decide
            simp only [e, Bool.false_and, if_false, Bool.false_eq_true]
            omega
          rw [hwr] at hw
          exact ⟨.int .u8 c.toNat, by simp [Instr.index, run_underlying hu, asIntOf, hb'], LIs.of_single hw.symm⟩
        · cases h
    · cases h
  · cases h

theorem extCells_is {old : Addr → Option Value} {b : Addr} {f : Nat → A} : ∀ (n i : Nat), (∀ j, j < n → ∃ v, old (b.add (i + j)) = some v ∧ Atom.cells (f (i + j)) = [v]) →
    ∃ vs, LIs β (extCells f i n) vs ∧ vs.length = n ∧ ∀ j v, vs[j]? = some v → old (b.add (i + j)) = some v
  | 0, i, _ => ⟨[], rfl, rfl, fun j v h => by simp at h⟩
  | n + 1, i, h => by
    obtain ⟨v, h1, h2⟩ := h 0 (by omega)
    obtain ⟨vs, k1, k2, k3⟩ := extCells_is n (i + 1) (fun j hj => by
      have := h (j + 1) (by omega)
      rw [show i + 1 + j = i + (j + 1) by omega]
      exact this)
    refine ⟨v :: vs, ⟨[v], vs, h2.symm, k1, rfl⟩, by simp [k2], fun j u hj => ?_⟩
    cases j with
    | zero => simp at hj; subst hj; exact h1
    | succ j =>
      have := k3 j u (by simpa using hj)
      rw [show i + 1 + j = i + (j + 1) by omega] at this
      exact this

theorem knownCells_is {b : Addr} {f : Nat → A} : ∀ (n i : Nat), (∀ j, j < n → ∃ v, β.kn (b.add j) v ∧ Atom.cells (f (i + j)) = [v]) →
    ∃ vs, LIs β (extCells f i n) vs ∧ vs.length = n ∧ ∀ (j : Nat) v, vs[j]? = some v → β.kn (b.add j) v
  | 0, i, _ => ⟨[], rfl, rfl, fun j v h => by simp at h⟩
  | n + 1, i, h => by
    obtain ⟨v, h1, h2⟩ := h 0 (by omega)
    obtain ⟨vs, k1, k2, k3⟩ := knownCells_is (b := b.add 1) n (i + 1) (fun j hj => by
      obtain ⟨u, g1, g2⟩ := h (j + 1) (by omega)
      refine ⟨u, ?_, ?_⟩
      · rw [Addr.add_add, Nat.add_comm 1 j]; exact g1
      · rw [show i + 1 + j = i + (j + 1) by omega]; exact g2)
    refine ⟨v :: vs, ⟨[v], vs, by rw [Nat.add_zero] at h2; exact h2.symm, k1, rfl⟩, by simp [k2], fun j u hj => ?_⟩
    cases j with
    | zero => simp at hj; subst hj; exact h1
    | succ j =>
      have := k3 j u (by simpa using hj)
      rw [Addr.add_add, Nat.add_comm 1 j] at this
      exact this

theorem wideOf_is {β : Adr} {l : List (SV A)} {off : Nat} {x : A} (h : wideOf l off = some x) : off = 0 ∧ ∀ {vs : List Value}, LIs β l vs → vs = Atom.cells x := by
  unfold wideOf at h
  split at h
  · split at h
    · obtain rfl := Option.some.inj h
      refine ⟨rfl, ?_⟩
      rintro vs ⟨u, w, h1, h2, e⟩
      obtain rfl : w = [] := h2
      have h3 : u = Atom.cells _ := h1
      rw [e, h3, List.append_nil]
    · cases h
  · cases h
theorem loadV_run {c : Cfg A} {X : Nat → Prop} {W0 W : World} {m : Mem A} (hm : MRel c X W0 β m W) {t : TypeId} {xv tv : TV A} {vc : List Prop} {u : Value} (h : loadV c m t xv = some (tv, vc)) (hvc : ∀ p ∈ vc, p) (hx : xv.Is β u) :
    ∃ z, (Instr.loadAt t u).run c.P W = .ok z W ∧ tv.Is β z := by
  unfold loadV at h
  split at h
  · rename_i i off
    split at h
    · rename_i blk hb
      split at h
      · rename_i v hv
        simp at h; obtain ⟨rfl, rfl⟩ := h
        obtain ⟨b, hb1, e⟩ := LIs.single (hx : LIs β _ [u])
        simp at e; subst e
        obtain ⟨b', vs, fz, hb2, hvs, hheap, _⟩ := hm.mem' hb hb1
        have : b' = b := by rw [hb1] at hb2; exact (Option.some.inj hb2).symm
        subst this
        obtain ⟨x, hu1, hu2⟩ := run_loadPart (P := c.P) (w := W) hv hvs hheap
        exact ⟨x, by simp [Instr.loadAt, Instr.sureAddr, hu1], hu2⟩
      · cases h
    · cases h
  · rename_i i off n z
    split at h
    · rename_i blk hb
      split at h
      · rename_i x hwd
        split at h
        · rename_i y ha hs hy
          simp at h; obtain ⟨rfl, rfl⟩ := h
          obtain ⟨hz, b, hb1, e⟩ := LIs.single (hx : LIs β _ [u])
          simp at e; subst e
          have hsz : Atom.size x = n := hvc _ (by simp)
          obtain ⟨b', vs, fz, hb2, hvs, hheap, _⟩ := hm.mem' hb hb1
          have : b' = b := by rw [hb1] at hb2; exact (Option.some.inj hb2).symm
          subst this
          obtain ⟨rfl, hcs⟩ := wideOf_is hwd
          have hvx := hcs hvs
          obtain ⟨v, hv1, hv2⟩ := Atom.get_ok hy (by rw [hsz]; exact hz)
          rw [← hvx] at hv1
          refine ⟨v, ?_, LIs.of_single (by show [v] = _; rw [hv2])⟩
          simp only [Instr.loadAt, Instr.sureAddr, Sem.run_bind, Sem.run_pure, Result.andThen_ok]
          unfold loadVar
          rw [Sem.run_bind, run_isAgg ha]
          simp only [Result.andThen_ok, Bool.false_eq_true, if_false]
          rw [run_load, cell_of_row W b' (0 + z) _ _ fz hheap, Nat.zero_add]
          simp [hv1]
        · cases h
      split at h
      · rename_i l ha hs hc
        split at h
        · rename_i y hy
          simp at h; obtain ⟨rfl, rfl⟩ := h
          obtain ⟨hz, b, hb1, e⟩ := LIs.single (hx : LIs β _ [u])
          simp at e; subst e
          obtain ⟨b', vs, fz, hb2, hvs, hheap, _⟩ := hm.mem' hb hb1
          have : b' = b := by rw [hb1] at hb2; exact (Option.some.inj hb2).symm
          subst this
          obtain ⟨h1, h2⟩ := cut_is hvs hc
          obtain ⟨v, hv1, hv2⟩ := rowGet_is hy h1 hz
          rw [List.getElem?_take, if_pos hz, List.getElem?_drop] at hv1
          refine ⟨v, ?_, LIs.of_single hv2⟩
          simp only [Instr.loadAt, Instr.sureAddr, Sem.run_bind, Sem.run_pure, Result.andThen_ok]
          unfold loadVar
          rw [Sem.run_bind, run_isAgg ha]
          simp only [Result.andThen_ok, Bool.false_eq_true, if_false]
          rw [run_load, cell_of_row W b' (off + z) _ _ fz hheap]
          simp [hv1]
        · cases h
      · cases h
    · cases h
  · rename_i a f i
    obtain ⟨b, rfl, e⟩ := LIs.single (hx : LIs β _ [u])
    simp at e; subst e
    split at h
    · rename_i n ha hs
      simp at h; obtain ⟨rfl, rfl⟩ := h
      have h1 : Reads c.old (some b) f i n := hvc _ (by simp)
      obtain ⟨vs, k1, k2, k3⟩ := extCells_is (β := β) n i (h1 b rfl)
      refine ⟨.agg vs.toArray, ?_, ⟨vs, k1, rfl⟩⟩
      simp only [Instr.loadAt, Instr.sureAddr, Sem.run_bind, Sem.run_pure, Result.andThen_ok]
      unfold loadVar
      rw [Sem.run_bind, run_isAgg ha]
      simp only [Result.andThen_ok, if_true, Sem.run_bind, run_sizeT hs, Sem.run_pure]
      have := run_loadCells_list (P := c.P) W (b.add i) vs (fun j v hv => by
        rw [Addr.add_add]
        exact hm.cell (k3 j v hv))
      rw [k2] at this
      rw [this]
      rfl
    · rename_i ha hs
      simp at h; obtain ⟨rfl, rfl⟩ := h
      have h1 : Reads c.old (some b) f i 1 := hvc _ (by simp)
      obtain ⟨v, k1, k2⟩ := h1 b rfl 0 (by omega)
      refine ⟨v, ?_, LIs.of_single k2.symm⟩
      simp only [Instr.loadAt, Instr.sureAddr, Sem.run_bind, Sem.run_pure, Result.andThen_ok]
      unfold loadVar
      rw [Sem.run_bind, run_isAgg ha]
      simp only [Result.andThen_ok, Bool.false_eq_true, if_false]
      have hcell := hm.cell k1
      rw [Nat.add_zero] at hcell
      rw [run_load, hcell]
    · cases h
  · rename_i f i k
    obtain ⟨p, e, hk⟩ := LIs.single (hx : LIs β _ [u])
    simp at e; subst e
    split at h
    · rename_i n ha hs
      split at h
      · rename_i hnk
        simp at h; obtain ⟨rfl, rfl⟩ := h
        obtain ⟨vs, k1, k2, k3⟩ := knownCells_is (β := β) (b := p) (f := f) n i (fun j hj => hk j (by omega))
        refine ⟨.agg vs.toArray, ?_, ⟨vs, k1, rfl⟩⟩
        simp only [Instr.loadAt, Instr.sureAddr, Sem.run_bind, Sem.run_pure, Result.andThen_ok]
        unfold loadVar
        rw [Sem.run_bind, run_isAgg ha]
        simp only [Result.andThen_ok, if_true, Sem.run_bind, run_sizeT hs, Sem.run_pure]
        have := run_loadCells_list (P := c.P) W p vs (fun j v hv => (hm.kn _ _ (k3 j v hv)).1)
        rw [k2] at this
        rw [this]
        rfl
      · cases h
    · rename_i ha hs
      split at h
      · rename_i hnk
        simp at h; obtain ⟨rfl, rfl⟩ := h
        obtain ⟨v, k1, k2⟩ := hk 0 (by omega)
        refine ⟨v, ?_, LIs.of_single k2.symm⟩
        simp only [Instr.loadAt, Instr.sureAddr, Sem.run_bind, Sem.run_pure, Result.andThen_ok]
        unfold loadVar
        rw [Sem.run_bind, run_isAgg ha]
        simp only [Result.andThen_ok, Bool.false_eq_true, if_false]
        have hcell := (hm.kn _ _ k1).1
        have e0 : p.add 0 = p := by simp [Addr.add]
        rw [e0] at hcell
        rw [run_load, hcell]
      · cases h
    · cases h
  · cases h

theorem lenV_run {t : TypeId} {xv tv : TV A} {u : Value} (h : lenV P t xv = some tv) (hx : xv.Is β u) {ats : Array TypeId} {ty : TypeId} (hat : ats[0]? = some t) :
    ∃ z, (Builtin.len_ ats ty #[u]).run P w = .ok z w ∧ tv.Is β z := by
  unfold lenV at h
  split at h
  · rename_i e i off n cp hu
    simp at h; subst h
    obtain ⟨b, hb, ev⟩ := LIs.single (hx : LIs β _ [u])
    simp at ev; subst ev
    exact ⟨.int .i64 n, by simp [Builtin.len_, hat, run_underlying hu, goInt], LIs.of_single ⟨rfl, rfl⟩⟩
  · rename_i e n cp hu
    simp at h; subst h
    obtain ⟨ev, _⟩ := LIs.single (hx : LIs β _ [u])
    simp at ev; subst ev
    exact ⟨.int .i64 n, by simp [Builtin.len_, hat, run_underlying hu, goInt], LIs.of_single ⟨rfl, rfl⟩⟩
  · rename_i e a f i n cp hu
    simp at h; subst h
    obtain ⟨p, ev⟩ := (LIs.single (hx : LIs β _ [u])).extern
    simp at ev; subst ev
    exact ⟨.int .i64 n, by simp [Builtin.len_, hat, run_underlying hu, goInt], LIs.of_single rfl⟩
  · rename_i e f i n sz hu
    simp at h; subst h
    obtain ⟨p, cp, ev⟩ := (LIs.single (hx : LIs β _ [u]) : knownIs β f i n sz [u]).single
    simp at ev; subst ev
    exact ⟨.int .i64 n, by simp [Builtin.len_, hat, run_underlying hu, goInt], LIs.of_single rfl⟩
  · rename_i s hu
    simp at h; subst h
    obtain ⟨ev, _⟩ := LIs.single (hx : LIs β _ [u])
    simp at ev; subst ev
    exact ⟨.int .i64 s.size, by simp [Builtin.len_, hat, run_underlying hu, goInt], LIs.of_single ⟨rfl, rfl⟩⟩
  · cases h
end bins

section fills
variable {P : Program} {w : World} {β : Adr}

theorem foldl_set : ∀ (vs : List Value) (k off : Nat) (cs : Array Value), off + k + vs.length ≤ cs.size →
    ((vs.zipIdx k).foldl (fun (cs : Array Value) (x : Value × Nat) => cs.setIfInBounds (off + x.2) x.1) cs).toList = cs.toList.take (off + k) ++ vs ++ cs.toList.drop (off + k + vs.length)
  | [], k, off, cs, _ => by simp
  | v :: vs, k, off, cs, h => by
    simp only [List.zipIdx_cons, List.foldl_cons]
    rw [foldl_set vs (k + 1) off _ (by simp at h ⊢; omega)]
    have hk : off + k < cs.toList.length := by simp at h ⊢; omega
    simp only [Array.toList_setIfInBounds]
    rw [show off + (k + 1) = (off + k) + 1 by omega]
    rw [List.take_succ_eq_append_getElem (by simpa using hk)]
    rw [List.take_set_of_le (Nat.le_refl _)]
    rw [List.drop_set_of_lt (by omega)]
    simp
    omega

theorem fillV_run {place : Nat → Option (Nat × Nat)} {c : Cfg A} {X : Nat → Prop} {W0 : World} {st : St A} {a : Act} (ht : TRel β st.t a) (hm : MRel c X W0 β st.m w) :
    ∀ {parts : List (Nat × Operand)} {cells l : List (SV A)} {vs : List Value}, fillV place c st cells parts = some l → LIs β cells vs →
      ∃ us, Instr.fill place vs.toArray (parts.map fun x => (x.1, a.eval x.2)) = some us.toArray ∧ LIs β l us
  | [], cells, l, vs, h, hv => by
    simp [fillV] at h; subst h
    exact ⟨vs, by simp [Instr.fill], hv⟩
  | (i, x) :: rest, cells, l, vs, h, hv => by
    simp only [fillV] at h
    split at h
    · rename_i off size tv hp hx
      split at h
      · rename_i x' hc
        split at h
        · rename_i hs
          split at h
          · rename_i cells' ho
            have hx' := cellsT_is (evO_is ht hm hx) hc
            have hlen := hx'.len
            obtain ⟨h1, h2⟩ := over_is hv hx' ho
            obtain ⟨us, hu1, hu2⟩ := fillV_run ht hm h h1
            refine ⟨us, ?_, hu2⟩
            rw [← hu1]
            simp only [List.map_cons, Instr.fill, hp]
            have hsz : (a.eval x).cells.size = size := by rw [← Array.length_toList, hlen, hs]
            rw [if_neg]
            · congr 1
              apply Array.toList_inj.1
              rw [← Array.foldl_toList, Array.toList_zipIdx]
              have := foldl_set (a.eval x).cells.toList 0 off vs.toArray (by simpa using h2)
              simpa using this
            · have h3 : ¬ (off + (a.eval x).cells.size > vs.toArray.size) := by simp at h2 ⊢; omega
              simp [hsz] at h3 ⊢
              omega
          · cases h
        · cases h
      · cases h
    · cases h

theorem placesOf_eq {fs : List Field} {ps : List (Nat × Nat)} (h : placesOf P fs = some ps) :
    ∀ w : World, (fs.mapM (fun f => do pure (f.offset, ← sizeOf f.type) : Field → Sem (Nat × Nat))).run P w = .ok ps w := by
  induction fs generalizing ps with
  | nil => intro w; simp [placesOf] at h; subst h; simp
  | cons f r ih =>
    intro w
    simp only [placesOf] at h
    split at h
    · rename_i n l hn hl
      simp at h; subst h
      have ih' := ih hl w
      simp only [List.mapM_cons, Sem.run_bind, run_sizeT hn, Result.andThen_ok, Sem.run_pure]
      rw [ih']
      rfl
    · cases h

theorem bndO_run {c : Cfg A} {X : Nat → Prop} {W0 : World} {st : St A} {a : Act} (ht : TRel β st.t a) (hm : MRel c X W0 β st.m w) {y d k : Nat} {x : Operand} {code : BoundsCode}
    (h : bndO c st y d (some x) = some k) : (Instr.sliceBound (a.eval x) y code).run P w = .ok k w := by
  simp only [bndO] at h
  split at h
  · rename_i tv hx
    split at h
    · rename_i z hz
      split at h
      · rename_i k' hk
        split at h
        · rename_i hle
          simp at h; subst h
          obtain ⟨kk, e⟩ := litOf_is (evO_is ht hm hx) hz
          have := natOf_eq hk
          subst this
          have h1 : (0 : Int) ≤ k' ∧ (k' : Int) ≤ y := by omega
          simp only [Instr.sliceBound, e, asIntOf, Sem.run_bind, Sem.run_pure, Result.andThen_ok, h1, and_self, if_true, Int.toNat_natCast]
        · cases h
      · cases h
    · cases h
  · cases h

theorem bounds_run {c : Cfg A} {X : Nat → Prop} {W0 : World} {st : St A} {a : Act} (ht : TRel β st.t a) (hm : MRel c X W0 β st.m w) {sl : Bool} {len cap m h l : Nat} {lo hi mx : Option Operand}
    (hx : (mx.isSome && hi.isNone) = false) (h1 : bndO c st cap cap mx = some m) (h2 : bndO c st m len hi = some h) (h3 : bndO c st h 0 lo = some l) :
    (Instr.sliceBounds sl len cap (lo.map a.eval) (hi.map a.eval) (mx.map a.eval)).run P w = .ok (l, h, m) w := by
  have d0 : ∀ {y d k : Nat}, bndO c st y d none = some k → d = k := by intro y d k e; simpa [bndO] using e
  cases mx with
  | none =>
    have := d0 h1; subst this
    cases hi with
    | none =>
      have := d0 h2; subst this
      cases lo with
      | none => have := d0 h3; subst this; simp [Instr.sliceBounds]
      | some x => simp [Instr.sliceBounds, bndO_run (P := P) ht hm h3]
    | some y =>
      cases lo with
      | none => have := d0 h3; subst this; simp [Instr.sliceBounds, bndO_run (P := P) ht hm h2]
      | some x => simp [Instr.sliceBounds, bndO_run (P := P) ht hm h2, bndO_run (P := P) ht hm h3]
  | some z =>
    cases hi with
    | none => simp at hx
    | some y =>
      cases lo with
      | none => have := d0 h3; subst this; simp [Instr.sliceBounds, bndO_run (P := P) ht hm h1, bndO_run (P := P) ht hm h2]
      | some x => simp [Instr.sliceBounds, bndO_run (P := P) ht hm h1, bndO_run (P := P) ht hm h2, bndO_run (P := P) ht hm h3]

theorem capsOf_is : ∀ {l : List (TV A)} {cs : List (Nat × Nat)} {vs : List Value}, capsOf l = some cs → TsIs β l vs → capsIs β cs vs
  | [], cs, vs, h, e => by simp [capsOf] at h; subst h; exact e
  | t :: l, cs, vs, h, ⟨v, r, h1, h2, e⟩ => by
    subst e
    simp only [capsOf] at h
    split at h
    · rename_i ad l' ha hl
      simp at h; subst h
      obtain ⟨i, off⟩ := ad
      obtain ⟨b, hb, rfl⟩ := addrOf_is h1 ha
      exact ⟨b, r, hb, capsOf_is hl h2, rfl⟩
    · cases h
end fills

theorem sliceV_run {c : Cfg A} {X : Nat → Prop} {W0 W : World} {β : Adr} {st : St A} {a : Act} (ht : TRel β st.t a) (hm : MRel c X W0 β st.m W) {i off len cap : Nat} {e : TypeId} {lo hi mx : Option Operand} {tv : TV A} {vc : List Prop}
    (h : sliceV c st i off len cap e lo hi mx = some (tv, vc)) : ∃ l hh m sz, vc = [] ∧ tv = .val false [.s i (if m = l then off else off + l * sz) (hh - l) (m - l)] ∧ sizeT c.P e = some sz ∧
      ∀ sl, (Instr.sliceBounds sl len cap (lo.map a.eval) (hi.map a.eval) (mx.map a.eval)).run c.P W = .ok (l, hh, m) W := by
  unfold sliceV at h
  split at h
  · cases h
  · rename_i hx
    split at h
    · rename_i m sz h1 hs
      split at h
      · rename_i hh h2
        split at h
        · rename_i l h3
          simp at h
          obtain ⟨rfl, rfl⟩ := h
          exact ⟨l, hh, m, sz, rfl, rfl, hs, fun sl => bounds_run ht hm (by revert hx; cases (mx.isSome && hi.isNone) <;> simp) h1 h2 h3⟩
        · cases h
      · cases h
    · cases h

theorem bndE_run {c : Cfg A} {X : Nat → Prop} {W0 W : World} {β : Adr} {st : St A} {a : Act} (ht : TRel β st.t a) (hm : MRel c X W0 β st.m W) {y d k : Nat} {x : Operand} {code : BoundsCode} {vc : List Prop}
    (h : bndE c st y d (some x) = some (k, vc)) (hvc : ∀ p ∈ vc, p) : (Instr.sliceBound (a.eval x) y code).run c.P W = .ok k W ∧ k ≤ y := by
  simp only [bndE] at h
  split at h
  · rename_i tv hx
    split at h
    · rename_i l z hz
      simp at h; obtain ⟨rfl, rfl⟩ := h
      obtain ⟨kk, e⟩ := numOf_is (evO_is ht hm hx) hz
      have h1 : 0 ≤ z ∧ z ≤ y := hvc _ (by simp)
      exact ⟨by simp only [Instr.sliceBound, e, asIntOf, Sem.run_bind, Sem.run_pure, Result.andThen_ok, h1, and_self, if_true], by omega⟩
    · cases h
  · cases h

theorem sliceE_run {c : Cfg A} {X : Nat → Prop} {W0 W : World} {β : Adr} {st : St A} {a : Act} (ht : TRel β st.t a) (hm : MRel c X W0 β st.m W) {ad : Option Addr} {f : Nat → A} {i len cap : Nat} {e : TypeId} {lo hi mx : Option Operand} {tv : TV A} {vc : List Prop}
    (h : sliceE c st ad f i len cap e lo hi mx = some (tv, vc)) (hvc : ∀ p ∈ vc, p) : ∃ l hh m sz, tv = .val false [.e ad f (timesN l sz + i) (hh - l) (m - l)] ∧ sizeT c.P e = some sz ∧ m ≤ cap ∧ l ≤ hh ∧ (len ≤ cap → hh ≤ m) ∧
      ∀ sl, (Instr.sliceBounds sl len cap (lo.map a.eval) (hi.map a.eval) (mx.map a.eval)).run c.P W = .ok (l, hh, m) W := by
  unfold sliceE at h
  split at h
  · cases h
  · rename_i hx
    split at h
    · rename_i m v1 sz h1 hs
      split at h
      · rename_i hh v2 h2
        split at h
        · rename_i l v3 h3
          simp at h
          obtain ⟨rfl, rfl⟩ := h
          have hst : startN lo i l sz = timesN l sz + i := by
            cases lo with
            | none => simp [bndE] at h3; obtain ⟨rfl, _⟩ := h3; simp [startN, timesN_eq]
            | some _ => rfl
          rw [hst]
          have d0 : ∀ {y d k : Nat} {v : List Prop}, bndE c st y d none = some (k, v) → d = k := by intro y d k v e; simp [bndE] at e; exact e.1
          have c1 : ∀ p ∈ v1, p := fun p hp => hvc p (by simp [hp])
          have c2 : ∀ p ∈ v2, p := fun p hp => hvc p (by simp [hp])
          have c3 : ∀ p ∈ v3, p := fun p hp => hvc p (by simp [hp])
          refine ⟨l, hh, m, sz, rfl, hs, ?_⟩
          cases mx with
          | none =>
            have := d0 h1; subst this
            cases hi with
            | none =>
              have := d0 h2; subst this
              cases lo with
              | none => have := d0 h3; subst this; exact ⟨Nat.le_refl _, Nat.zero_le _, fun h => h, fun sl => by simp [Instr.sliceBounds]⟩
              | some x => exact ⟨Nat.le_refl _, (bndE_run (code := .sliceB) ht hm h3 c3).2, fun h => h, fun sl => by simp [Instr.sliceBounds, (bndE_run ht hm h3 c3).1]⟩
            | some y =>
              have e2 := (bndE_run (code := .sliceB) ht hm h2 c2).2
              cases lo with
              | none => have := d0 h3; subst this; exact ⟨Nat.le_refl _, Nat.zero_le _, fun _ => e2, fun sl => by simp [Instr.sliceBounds, (bndE_run ht hm h2 c2).1]⟩
              | some x => exact ⟨Nat.le_refl _, (bndE_run (code := .sliceB) ht hm h3 c3).2, fun _ => e2, fun sl => by simp [Instr.sliceBounds, (bndE_run ht hm h2 c2).1, (bndE_run ht hm h3 c3).1]⟩
          | some z =>
            have e1 := (bndE_run (code := .sliceB) ht hm h1 c1).2
            cases hi with
            | none => simp at hx
            | some y =>
              have e2 := (bndE_run (code := .sliceB) ht hm h2 c2).2
              cases lo with
              | none => have := d0 h3; subst this; exact ⟨e1, Nat.zero_le _, fun _ => e2, fun sl => by simp [Instr.sliceBounds, (bndE_run ht hm h1 c1).1, (bndE_run ht hm h2 c2).1]⟩
              | some x => exact ⟨e1, (bndE_run (code := .sliceB) ht hm h3 c3).2, fun _ => e2, fun sl => by simp [Instr.sliceBounds, (bndE_run ht hm h1 c1).1, (bndE_run ht hm h2 c2).1, (bndE_run ht hm h3 c3).1]⟩
        · cases h
      · cases h
    · cases h

theorem bndE_most {c : Cfg A} {X : Nat → Prop} {W0 W : World} {β : Adr} {st : St A} {a : Act} (ht : TRel β st.t a) (hm : MRel c X W0 β st.m W) {y y' d k : Nat} {x : Operand} {code : BoundsCode} {vc : List Prop}
    (h : bndE c st y d (some x) = some (k, vc)) (hvc : ∀ p ∈ vc, p) (hy : y ≤ y') : (Instr.sliceBound (a.eval x) y' code).run c.P W = .ok k W ∧ k ≤ y := by
  simp only [bndE] at h
  split at h
  · rename_i tv hx
    split at h
    · rename_i l z hz
      simp at h; obtain ⟨rfl, rfl⟩ := h
      obtain ⟨kk, e⟩ := numOf_is (evO_is ht hm hx) hz
      have h1 : 0 ≤ z ∧ z ≤ y := hvc _ (by simp)
      have h2 : 0 ≤ z ∧ z ≤ y' := by omega
      exact ⟨by simp only [Instr.sliceBound, e, asIntOf, Sem.run_bind, Sem.run_pure, Result.andThen_ok, h2, and_self, if_true], by omega⟩
    · cases h
  · cases h

/-- The bounds of a part that lies within the first len elements, wherever there is room for as many. -/
theorem boundsH_run {c : Cfg A} {X : Nat → Prop} {W0 W : World} {β : Adr} {st : St A} {a : Act} (ht : TRel β st.t a) (hm : MRel c X W0 β st.m W) {len cap l hh : Nat} {lo hi mx : Option Operand} {vc : List Prop}
    (h : boundsH c st len lo hi mx = some (l, hh, vc)) (hvc : ∀ p ∈ vc, p) (hcap : len ≤ cap) : l ≤ hh ∧ hh ≤ len ∧ (∀ i sz, startN lo i l sz = timesN l sz + i) ∧
      ∃ m, hh ≤ m ∧ m ≤ cap ∧ ∀ sl, (Instr.sliceBounds sl len cap (lo.map a.eval) (hi.map a.eval) (mx.map a.eval)).run c.P W = .ok (l, hh, m) W := by
  unfold boundsH at h
  split at h
  · cases h
  · rename_i hx
    split at h
    · rename_i m v1 h1
      split at h
      · rename_i hq v2 h2
        split at h
        · rename_i l' v3 h3
          simp at h
          obtain ⟨rfl, rfl, rfl⟩ := h
          have hst : ∀ i sz, startN lo i l' sz = timesN l' sz + i := by
            intro i sz
            cases lo with
            | none => simp [bndE] at h3; obtain ⟨rfl, _⟩ := h3; simp [startN, timesN_eq]
            | some _ => rfl
          have d0 : ∀ {y d k : Nat} {v : List Prop}, bndE c st y d none = some (k, v) → d = k := by intro y d k v e; simp [bndE] at e; exact e.1
          have c1 : ∀ p ∈ v1, p := fun p hp => hvc p (by simp [hp])
          have c2 : ∀ p ∈ v2, p := fun p hp => hvc p (by simp [hp])
          have c3 : ∀ p ∈ v3, p := fun p hp => hvc p (by simp [hp])
          cases mx with
          | none =>
            have := d0 h1; subst this
            cases hi with
            | none =>
              have := d0 h2; subst this
              cases lo with
              | none => have := d0 h3; subst this; exact ⟨Nat.zero_le _, Nat.le_refl _, hst, cap, hcap, Nat.le_refl _, fun sl => by simp [Instr.sliceBounds]⟩
              | some x => exact ⟨(bndE_run (code := .sliceB) ht hm h3 c3).2, Nat.le_refl _, hst, cap, hcap, Nat.le_refl _, fun sl => by simp [Instr.sliceBounds, (bndE_run ht hm h3 c3).1]⟩
            | some y =>
              have e2 := (bndE_run (code := .sliceB) ht hm h2 c2).2
              cases lo with
              | none => have := d0 h3; subst this; exact ⟨Nat.zero_le _, e2, hst, cap, by omega, Nat.le_refl _, fun sl => by simp [Instr.sliceBounds, (bndE_most ht hm h2 c2 hcap).1]⟩
              | some x => exact ⟨(bndE_run (code := .sliceB) ht hm h3 c3).2, e2, hst, cap, by omega, Nat.le_refl _, fun sl => by simp [Instr.sliceBounds, (bndE_most ht hm h2 c2 hcap).1, (bndE_run ht hm h3 c3).1]⟩
          | some z =>
            have e1 := (bndE_run (code := .sliceB) ht hm h1 c1).2
            cases hi with
            | none => simp at hx
            | some y =>
              have e2 := (bndE_run (code := .sliceB) ht hm h2 c2).2
              cases lo with
              | none => have := d0 h3; subst this; exact ⟨Nat.zero_le _, by omega, hst, m, e2, by omega, fun sl => by simp [Instr.sliceBounds, (bndE_most ht hm h1 c1 hcap).1, (bndE_run ht hm h2 c2).1]⟩
              | some x => exact ⟨(bndE_run (code := .sliceB) ht hm h3 c3).2, by omega, hst, m, e2, by omega, fun sl => by simp [Instr.sliceBounds, (bndE_most ht hm h1 c1 hcap).1, (bndE_run ht hm h2 c2).1, (bndE_run ht hm h3 c3).1]⟩
        · cases h
      · cases h
    · cases h

theorem LIs.replicate {β : Adr} {z : List (SV A)} {vs : List Value} (h : LIs β z vs) : ∀ k : Nat, LIs β (List.replicate k z).flatten (List.replicate k vs).flatten
  | 0 => rfl
  | k + 1 => by simp only [List.replicate_succ, List.flatten_cons]; exact h.append (LIs.replicate h k)

theorem flat_cells {vs : List Value} {s : Nat} (hs : vs.length = s + 1) (k : Nat) : ((Array.range (k * (s + 1))).map (fun i => vs.toArray[i % vs.toArray.size]!)).toList = (List.replicate k vs).flatten := by
  apply List.ext_getElem
  · simp [List.length_flatten, hs]
  · intro i h1 h2
    simp at h1
    have hm : i % (s + 1) < vs.length := by rw [hs]; exact Nat.mod_lt _ (by omega)
    have key : ∀ (k i : Nat) (h : i < (List.replicate k vs).flatten.length), (List.replicate k vs).flatten[i]'h = vs[i % (s + 1)]'(by rw [hs]; exact Nat.mod_lt _ (by omega)) := by
      intro k
      induction k with
      | zero => intro i h; simp at h
      | succ k ih =>
        intro i h
        simp only [List.replicate_succ, List.flatten_cons, List.getElem_append]
        split
        · rename_i hlt
          congr 1
          exact (Nat.mod_eq_of_lt (by omega)).symm
        · rename_i hge
          rw [ih]
          congr 1
          rw [hs] at hge ⊢
          rw [← Nat.mod_eq_sub_mod (by omega)]
    rw [key k i h2]
    simp only [Array.toList_map, Array.toList_range, List.getElem_map, List.getElem_range, List.size_toArray, hs]
    rw [List.getElem!_toArray, getElem!_pos vs (i % (s + 1)) hm]

theorem litA_is {β : Adr} {s : SV A} {x : A} {vs : List Value} (h : litA s = some x) (hv : s.Is β vs) : ∃ u, vs = [u] ∧ Atom.cells x = [u] := by
  unfold litA at h
  split at h
  · rename_i y
    split at h
    · rename_i hs
      obtain rfl := Option.some.inj h
      have e : vs = Atom.cells y := hv
      have hl := Atom.len y
      rw [← e, hs] at hl
      obtain ⟨u, rfl⟩ := List.length_eq_one_iff.1 hl
      exact ⟨u, rfl, e.symm⟩
    · cases h
  · rename_i k z
    split at h
    · rename_i y hy
      split at h
      · rename_i hw
        obtain rfl := Option.some.inj h
        have e : vs = [.int k z] := hv.1
        have h2 := Atom.wrap_ok hy
        rw [hw] at h2
        exact ⟨_, e, h2⟩
      · cases h
    · exact ⟨_, hv.1, Atom.num_ok h⟩
  · exact ⟨_, hv, Atom.num_ok h⟩
  · exact ⟨_, hv, Atom.ofB_ok h⟩
  · exact ⟨_, hv.1, Atom.ofB_ok h⟩
  · cases h
theorem litsA_is {β : Adr} : ∀ {l : List (SV A)} {xs : List A} {vs : List Value}, litsA l = some xs → LIs β l vs → vs.length = xs.length ∧ ∀ (j : Nat) (a : A), xs[j]? = some a → ∃ u, vs[j]? = some u ∧ Atom.cells a = [u]
  | [], xs, vs, h, hv => by
    simp [litsA] at h
    subst h
    obtain rfl : vs = [] := hv
    exact ⟨rfl, fun j a h => by simp at h⟩
  | s :: l, xs, vs, h, ⟨x, y, h1, h2, e⟩ => by
    unfold litsA at h
    split at h
    · rename_i x' r hx hr
      obtain rfl := Option.some.inj h
      obtain ⟨u, rfl, k2⟩ := litA_is hx h1
      obtain ⟨k3, k4⟩ := litsA_is hr h2
      subst e
      refine ⟨by simp [k3], fun j a hj => ?_⟩
      cases j with
      | zero =>
        simp at hj
        subst hj
        exact ⟨u, rfl, k2⟩
      | succ j =>
        simp only [List.getElem?_cons_succ] at hj
        obtain ⟨w, w1, w2⟩ := k4 j a hj
        exact ⟨w, by simpa using w1, w2⟩
    · cases h

/-- Nothing behind a slice. -/
theorem run_append_zero {P : Program} {W : World} (t ty e : TypeId) (inf : TypeInfo) (hu : P.underlying t = some (.slice e)) (hi : P.info? e = some inf) (bo p : Option Addr) (n cap cp : Nat) (hn : n ≤ cap) :
    (Builtin.append_ #[t, t] ty #[.slice bo n cap, .slice p 0 cp]).run P W = .ok (.slice bo n cap) W := by
  have hl : ∀ a : Addr, (loadCells a 0).run P W = .ok #[] W := fun a => by
    have := run_loadCells_list (P := P) W a [] (fun j v h => by simp at h)
    simpa using this
  cases bo with
  | none =>
    cases p with
    | none => simp [Builtin.append_, run_underlying hu, sizeOf, typeInfo, hi, Builtin.lenOf, Builtin.firstCells, hn]
    | some a => simp [Builtin.append_, run_underlying hu, sizeOf, typeInfo, hi, Builtin.lenOf, Builtin.firstCells, hn, hl]
  | some b =>
    cases p with
    | none => simp [Builtin.append_, run_underlying hu, sizeOf, typeInfo, hi, Builtin.lenOf, Builtin.firstCells, hn, storeCells]
    | some a => simp [Builtin.append_, run_underlying hu, sizeOf, typeInfo, hi, Builtin.lenOf, Builtin.firstCells, hn, hl, storeCells]

theorem rowOfCells {f : Nat → A} {i N : Nat} {C : Nat → Value → Prop} (h : ∀ j, j < N → ∃ v, C j v ∧ Atom.cells (f (i + j)) = [v]) :
    ∃ news : List Value, news.length = N ∧ ∀ q v, news[q]? = some v → C q v ∧ Atom.cells (f (i + q)) = [v] := by
  refine ⟨(List.range N).map (fun q => (Atom.cells (f (i + q))).headD undef), by simp, fun q v hq => ?_⟩
  rw [List.getElem?_map] at hq
  have hqN : q < N := by
    rcases Nat.lt_or_ge q N with h' | h'
    · exact h'
    · rw [List.getElem?_eq_none (by simpa using h')] at hq; cases hq
  rw [List.getElem?_range hqN] at hq
  obtain ⟨u, h1, h2⟩ := h q hqN
  simp only [Option.map_some, Option.some.injEq, h2, List.headD_cons] at hq
  subst hq
  exact ⟨h1, h2⟩

theorem srcV_run {c : Cfg A} {X : Nat → Prop} {W0 W : World} {β : Adr} {m : Mem A} {sz : Nat} {yv : TV A} {g : Nat → A} {j n : Nat} {vc : List Prop} {u : Value} (hm : MRel c X W0 β m W) (h : srcV c m sz yv = some (g, j, n, vc)) (hvc : ∀ p ∈ vc, p) (hy : yv.Is β u) (hsz : 0 < sz) :
    ∃ (p : Option Addr) (cp : Nat) (news : List Value), u = .slice p n cp ∧ (p = none → n = 0) ∧ news.length = n * sz ∧ (∀ a, p = some a → ∀ q x, news[q]? = some x → W.cell? (a.add q) = some x) ∧
      (∀ (q : Nat) x, news[q]? = some x → Atom.cells (g (j + q)) = [x]) := by
  unfold srcV at h
  have hk := asKn_is hy
  split at h
  · rename_i a f i n' cp heq
    rw [heq] at hk
    simp at h; obtain ⟨rfl, rfl, rfl, rfl⟩ := h
    have ex : extIs a i n' cp [u] := LIs.single hk
    cases a with
    | none =>
      obtain ⟨rfl, rfl, e1⟩ := ex
      simp at e1
      exact ⟨none, 0, [], e1, fun _ => rfl, by simp, fun a ha => by (cases ha), fun q x hq => by simp at hq⟩
    | some b =>
      obtain ⟨p, hp, hnc, e1⟩ := ex
      simp at e1
      have hr : Reads c.old (some b) f i (timesN n' sz) := hvc _ (by simp)
      rw [timesN_eq] at hr
      obtain ⟨news, k1, k2⟩ := rowOfCells (C := fun q v => c.old (b.add (i + q)) = some v) (hr b rfl)
      refine ⟨some p, cp, news, e1, fun h => by (cases h), k1, fun a ha q x hq => ?_, fun q x hq => (k2 q x hq).2⟩
      obtain rfl := Option.some.inj ha
      have hq1 := (List.getElem?_eq_some_iff.1 hq).1
      have hn0 : 0 < n' := by
        rcases Nat.eq_zero_or_pos n' with h0 | h0
        · subst h0; omega
        · exact h0
      rw [hp (by omega), Addr.add_add]
      exact hm.cell (k2 q x hq).1
  · rename_i f i n' sz' heq
    rw [heq] at hk
    split at h
    · rename_i hs
      subst hs
      simp at h; obtain ⟨rfl, rfl, rfl, rfl⟩ := h
      have ex : knownIs β f i n' sz [u] := LIs.single hk
      rcases ex with ⟨rfl, e1⟩ | ⟨p, cp, e1, hnc, hkn⟩
      · simp at e1
        exact ⟨none, 0, [], e1, fun _ => rfl, by simp, fun a ha => by (cases ha), fun q x hq => by simp at hq⟩
      · simp at e1
        obtain ⟨news, k1, k2⟩ := rowOfCells (C := fun q v => β.kn (p.add q) v) hkn
        refine ⟨some p, cp, news, e1, fun h => by (cases h), k1, fun a ha q x hq => ?_, fun q x hq => (k2 q x hq).2⟩
        obtain rfl := Option.some.inj ha
        exact (hm.kn _ _ (k2 q x hq).1).1
    · cases h
  · rename_i i off n' cp heq
    rw [heq] at hk
    split at h
    · rename_i blk hb
      split at h
      · rename_i x hwd
        simp only [Option.some.injEq, Prod.mk.injEq] at h; obtain ⟨rfl, rfl, rfl, rfl⟩ := h
        obtain ⟨b, hb1, e1⟩ := LIs.single (hk : LIs β _ [u])
        simp at e1
        have hsz : timesN n' sz = Atom.size x := hvc _ (by simp)
        have hall : ∀ j, j < Atom.size x → (Atom.get x j).isSome = true := hvc _ (by simp)
        rw [timesN_eq] at hsz
        obtain ⟨b', vs, fz, hb2, hvs, hheap, _⟩ := hm.mem' hb hb1
        have : b' = b := by rw [hb1] at hb2; exact (Option.some.inj hb2).symm
        subst this
        obtain ⟨rfl, hcs⟩ := wideOf_is hwd
        have hvx := hcs hvs
        have hvl : vs.length = Atom.size x := by rw [hvx, Atom.len]
        refine ⟨some ⟨b', 0, none⟩, cp, vs, e1, fun h => by (cases h), by omega, fun a ha q y hq => ?_, fun q y hq => ?_⟩
        · obtain rfl := Option.some.inj ha
          rw [add_none, cell_of_row W b' (0 + q) _ _ fz hheap, Nat.zero_add]
          simpa using hq
        · have hlt := (List.getElem?_eq_some_iff.1 hq).1
          have hso := hall q (by omega)
          cases hg : Atom.get x q with
          | none => rw [hg] at hso; cases hso
          | some y' =>
            obtain ⟨v, hv1, hv2⟩ := Atom.get_ok hg (by omega)
            rw [← hvx, hq] at hv1
            obtain rfl := Option.some.inj hv1
            show Atom.cells ((Atom.get x (0 + q)).getD Atom.dummy) = _
            rw [Nat.zero_add, hg]
            exact hv2
      split at h
      · rename_i l hl
        split at h
        · rename_i x r hlit
          split at h
          · rename_i hlen
            simp only [Option.some.injEq, Prod.mk.injEq] at h; obtain ⟨rfl, rfl, rfl, rfl⟩ := h
            obtain ⟨b, hb1, e1⟩ := LIs.single (hk : LIs β _ [u])
            simp at e1
            obtain ⟨b', vs, fz, hb2, hvs, hheap, _⟩ := hm.mem' hb hb1
            have : b' = b := by rw [hb1] at hb2; exact (Option.some.inj hb2).symm
            subst this
            obtain ⟨h1, h2⟩ := cut_is hvs hl
            rw [timesN_eq] at h1 h2 hlen
            have hll : ((vs.drop off).take (n' * sz)).length = n' * sz := by simp; omega
            obtain ⟨q1, q2⟩ := litsA_is hlit (flat_is h1)
            refine ⟨some ⟨b', off, none⟩, cp, (vs.drop off).take (n' * sz), e1, fun h => by (cases h), hll, fun a ha q y hq => ?_, fun q y hq => ?_⟩
            · obtain rfl := Option.some.inj ha
              rw [add_none, cell_of_row W b' (off + q) _ _ fz hheap]
              have hlt := (List.getElem?_eq_some_iff.1 hq).1
              rw [List.getElem?_take, if_pos (by omega), List.getElem?_drop] at hq
              simpa using hq
            · have hlt := (List.getElem?_eq_some_iff.1 hq).1
              have hlt' : q < (x :: r).length := by omega
              obtain ⟨y', r1, r2⟩ := q2 q _ (List.getElem?_eq_getElem hlt')
              rw [hq] at r1
              have := Option.some.inj r1
              subst this
              show Atom.cells (((x :: r)[0 + q]?).getD x) = [y]
              rw [Nat.zero_add, List.getElem?_eq_getElem hlt']
              exact r2
          · cases h
        · cases h
      · cases h
    · cases h
  · rename_i heq
    rw [heq] at hk
    simp at h; obtain ⟨rfl, rfl, rfl, rfl⟩ := h
    obtain ⟨e1, _⟩ := LIs.single (hk : LIs β _ [u])
    simp at e1
    exact ⟨none, 0, [], e1, fun _ => rfl, by simp, fun a ha => by (cases ha), fun q x hq => by simp at hq⟩
  · cases h

theorem catF_lt (f g : Nat → A) (k i j : Nat) (h : j < k) : catF f k g i j = f j := by
  have : Nat.blt j k = true := by simpa [Nat.blt_eq] using h
  simp [catF, this]
theorem catF_ge (f g : Nat → A) (k i j : Nat) (h : k ≤ j) : catF f k g i j = g (i + (j - k)) := by
  have : Nat.blt j k = false := by
    cases hb : Nat.blt j k with
    | false => rfl
    | true => rw [Nat.blt_eq] at hb; omega
  simp [catF, this]

theorem catF_cells {f g : Nat → A} {k i : Nat} {vs news : List Value} (hk : vs.length = k) (hf : ∀ (q : Nat) x, vs[q]? = some x → Atom.cells (f q) = [x]) (hg : ∀ (q : Nat) x, news[q]? = some x → Atom.cells (g (i + q)) = [x]) :
    ∀ (q : Nat) x, (vs ++ news)[q]? = some x → Atom.cells (catF f k g i q) = [x] := by
  intro q x hq
  rcases Nat.lt_or_ge q k with h | h
  · rw [List.getElem?_append_left (by omega)] at hq
    rw [catF_lt _ _ _ _ _ h]
    exact hf q x hq
  · rw [List.getElem?_append_right (by omega), hk] at hq
    rw [catF_ge _ _ _ _ _ h]
    exact hg _ x hq

theorem appendK_run {c : Cfg A} {X : Nat → Prop} {W0 W : World} {β : Adr} {m : Mem A} {e t ty : TypeId} {sz : Nat} {inf : TypeInfo} {z : Value} {xv yv v : TV A} {vc : List Prop} {u w : Value} (hm : MRel c X W0 β m W)
    (h : appendK c m sz inf.bytes xv yv = some (v, vc)) (hvc : ∀ p ∈ vc, p) (hu : c.P.underlying t = some (.slice e)) (hinf : c.P.info? e = some inf) (hsz : inf.size = sz) (h0 : 0 < sz) (hz : inf.zero = some z) (hzl : z.cells.size = sz)
    (hx : xv.Is β u) (hy : yv.Is β w) : ∃ r W' K, (Builtin.append_ #[t, t] ty #[u, w]).run c.P W = .ok r W' ∧ Fresh W W' K ∧ v.Is (β.know K) r ∧ Keeps W W' := by
  -- a new row
  have fresh : ∀ (ws tail : List Value) (N cap : Nat) (f : Nat → A) (i : Nat), ws.length = N * sz → N ≤ cap → (∀ (q : Nat) x, ws[q]? = some x → Atom.cells (f (i + q)) = [x]) →
      ∃ K, Fresh W (W.drew.alloc (.cells (ws ++ tail).toArray e)) K ∧ (TV.val false [.kn f i N sz]).Is (β.know K) (.slice (some ⟨W.heap.size, 0, none⟩) N cap) ∧ Keeps W (W.drew.alloc (.cells (ws ++ tail).toArray e)) := by
    intro ws tail N cap f i hl hc hf
    have hh : (W.drew.alloc (.cells (ws ++ tail).toArray e)).heap[W.heap.size]? = some (.cells (ws ++ tail).toArray e (0, 0)) := heap_alloc_new W.drew _
    refine ⟨fun a x => ∃ j, a = ⟨W.heap.size, j, none⟩ ∧ ws[j]? = some x, ?_, LIs.of_single (.inr ⟨⟨W.heap.size, 0, none⟩, cap, rfl, hc, fun j hj => ?_⟩), (Keeps.drew W).trans (Keeps.alloc W.drew _)⟩
    · rintro a x ⟨j, rfl, hj⟩
      refine ⟨?_, Nat.le_refl _⟩
      rw [cell_of_row _ _ j _ _ _ hh]
      have hlt := (List.getElem?_eq_some_iff.1 hj).1
      simp only [List.getElem?_toArray]
      rw [List.getElem?_append_left hlt]
      exact hj
    · have hlt : j < ws.length := by omega
      have hx := List.getElem?_eq_getElem hlt
      exact ⟨_, .inr ⟨j, by rw [add_none, Nat.zero_add], hx⟩, hf j _ hx⟩
  unfold appendK at h
  split at h
  · rename_i g j n vc0 hsrc
    split at h
    · simp only [Option.some.injEq, Prod.mk.injEq] at h
      obtain ⟨rfl, rfl⟩ := h
      obtain ⟨p, cp, news, rfl, s1, s2, s3, s4⟩ := srcV_run hm hsrc (fun q hq => hvc q (by simp [hq])) hy h0
      obtain ⟨f1, f2⟩ : Bears n inf.bytes := hvc _ (by simp)
      obtain ⟨ev, _⟩ := LIs.single (hx : LIs β _ [u])
      simp at ev; subst ev
      rcases Nat.eq_zero_or_pos n with rfl | hn
      · exact ⟨_, W, fun _ _ => False, run_append_zero t ty e inf hu hinf none p 0 0 cp (Nat.le_refl _), Fresh.none W W, LIs.of_single (.inl ⟨rfl, rfl⟩), Keeps.refl W⟩
      · cases p with
        | none => have := s1 rfl; omega
        | some a =>
          have small : n ≤ 9223372036854775807 := by simp only [maxLen] at f2; omega
          have hr := run_append_nil (P := c.P) W t ty e inf z hu hinf hz a n cp news (by rw [s2, hsz]) (s3 a rfl) hn (by omega) (by omega)
          have harr : (news.toArray ++ Builtin.zeroCells z.cells (grownCap W n 0 e - n)) = (news ++ (Builtin.zeroCells z.cells (grownCap W n 0 e - n)).toList).toArray := by
            apply Array.toList_inj.1; simp
          rw [harr] at hr
          obtain ⟨K, k1, k2, k3⟩ := fresh news (Builtin.zeroCells z.cells (grownCap W n 0 e - n)).toList n (grownCap W n 0 e) g j s2 (grownCap_ge W n 0 e) s4
          exact ⟨_, _, K, hr, k1, k2, k3⟩
    · rename_i i off kx cpx
      split at h
      · rename_i blk hb
        split at h
        · rename_i l hl
          split at h
          · rename_i x r hlit
            split at h
            · rename_i hlen
              obtain ⟨hlen, rfl⟩ := hlen
              simp only [Option.some.injEq, Prod.mk.injEq] at h
              obtain ⟨rfl, rfl⟩ := h
              obtain ⟨p, cp, news, rfl, s1, s2, s3, s4⟩ := srcV_run hm hsrc (fun q hq => hvc q (by simp [hq])) hy h0
              obtain ⟨hn, hf1, hf2⟩ : 0 < n ∧ Bears (kx + n) inf.bytes := hvc _ (by simp)
              obtain ⟨b, hb1, e1⟩ := LIs.single (hx : LIs β _ [u])
              simp at e1; subst e1
              obtain ⟨b', us, fz, hb2, hvs, hheap, _⟩ := hm.mem' hb hb1
              have : b' = b := by rw [hb1] at hb2; exact (Option.some.inj hb2).symm
              subst this
              obtain ⟨h1, h2⟩ := cut_is hvs hl
              rw [timesN_eq] at h1 h2 hlen
              obtain ⟨q1, q2⟩ := litsA_is hlit (flat_is h1)
              obtain ⟨olds, hol⟩ : ∃ olds, olds = (us.drop off).take (kx * sz) := ⟨_, rfl⟩
              have hll : olds.length = kx * sz := by rw [hol]; simp; omega
              cases p with
              | none => have := s1 rfl; omega
              | some a =>
                have small : kx + n ≤ 9223372036854775807 := by simp only [maxLen] at hf2; omega
                have hroom : kx < kx + n := by omega
                have hr := run_append_grow (P := c.P) W t ty e inf z hu hinf hz ⟨b', off, none⟩ kx kx olds (by rw [hll, hsz]) (fun q y hq => by
                  rw [add_none, cell_of_row W b' (off + q) _ _ fz hheap]
                  have hlt := (List.getElem?_eq_some_iff.1 hq).1
                  rw [hol, List.getElem?_take, if_pos (by omega), List.getElem?_drop] at hq
                  simpa using hq) a n cp news (by rw [s2, hsz]) (s3 a rfl) hroom (by omega) (growslice_fits hroom hf1)
                have harr : (olds.toArray ++ news.toArray ++ Builtin.zeroCells z.cells (grownCap W (kx + n) kx e - (kx + n))) = (olds ++ news ++ (Builtin.zeroCells z.cells (grownCap W (kx + n) kx e - (kx + n))).toList).toArray := by
                  apply Array.toList_inj.1; simp
                rw [harr] at hr
                obtain ⟨K, k1, k2, k3⟩ := fresh (olds ++ news) (Builtin.zeroCells z.cells (grownCap W (kx + n) kx e - (kx + n))).toList (kx + n) (grownCap W (kx + n) kx e) (catF (fun q => ((x :: r)[q]?).getD x) (timesN kx sz) g j) 0
                  (by rw [List.length_append, hll, s2, ← Nat.add_mul]) (grownCap_ge W (kx + n) kx e) (fun q y hq => by
                    rw [Nat.zero_add]
                    refine catF_cells (by rw [hll, timesN_eq]) (fun q y hq => ?_) s4 q y hq
                    have hlt := (List.getElem?_eq_some_iff.1 hq).1
                    have hlt' : q < (x :: r).length := by omega
                    obtain ⟨y', r1, r2⟩ := q2 q _ (List.getElem?_eq_getElem hlt')
                    rw [← hol, hq] at r1
                    have := Option.some.inj r1
                    subst this
                    rw [List.getElem?_eq_getElem hlt']
                    exact r2)
                exact ⟨_, _, K, hr, k1, k2, k3⟩
            · cases h
          · cases h
        · cases h
      · cases h
    · cases h
  · cases h

theorem zero_of {P : Program} {w : World} {β : Adr} {e : TypeId} {inf : TypeInfo} {sz : Nat} {z : List (SV A)} (hinf : P.info? e = some inf) (hz : zeroT (A := A) P e = some z) (hzl : z.length = sz) : ∃ zv, inf.zero = some zv ∧ zv.cells.size = sz := by
  obtain ⟨zv, hz1, hz2⟩ := run_zeroT (P := P) (w := w) (β := β) hz
  refine ⟨zv, ?_, ?_⟩
  · unfold zeroT at hz
    rw [hinf] at hz
    simp only at hz
    split at hz
    · rename_i v0 hv0
      simp [zeroValue, typeInfo, hinf, hv0] at hz1
      rw [hv0, hz1]
    · cases hz
  · have hone : lsize z = z.length := by
      unfold zeroT at hz
      split at hz
      · split at hz
        · split at hz
          · rename_i v _ _
            simp at hz; subst hz
            generalize v.cells.toList = l
            induction l with
            | nil => rfl
            | cons x l ih => simp [lsize, SV.size, ih]; omega
          · cases hz
        · cases hz
      · cases hz
    have := hz2.len
    rw [hone, hzl] at this
    simpa using this

theorem replicate_one (n : Nat) (v : Value) : (List.replicate n [v]).flatten = List.replicate n v := by
  induction n with
  | zero => rfl
  | succ n ih => rw [List.replicate_succ, List.flatten_cons, ih]; rfl
/-- A new slice of noughts, of whatever length. -/
theorem makeW_run {P : Program} {W : World} {t e : TypeId} {u v : Int} {a0 row : A} {bytes : Nat} (hu : P.underlying t = some (.slice e)) (h : makeW (A := A) P e u.toNat = some (a0, row, bytes)) (hm : Makes bytes u v) (kx ky : IntKind) :
    ∃ us : List Value, (Instr.makeSlice t (.int kx u) (.int ky v)).run P W = .ok (.slice (some ⟨W.heap.size, 0, none⟩) u.toNat u.toNat) (W.alloc (.cells us.toArray e)) ∧ us = Atom.cells row ∧ us.length = u.toNat ∧
      ∀ j, j < us.length → ∃ w, us[j]? = some w ∧ Atom.cells a0 = [w] := by
  obtain ⟨rfl, h0, h63, h48⟩ := hm
  obtain ⟨n, rfl⟩ := Int.eq_ofNat_of_zero_le h0
  rw [Int.toNat_natCast] at h ⊢
  unfold makeW at h
  split at h
  · rename_i i z hi hs hz
    split at h
    · rename_i a hlit
      split at h
      · rename_i row' hrow
        simp only [Option.some.injEq, Prod.mk.injEq] at h
        obtain ⟨rfl, rfl, rfl⟩ := h
        obtain ⟨zv, hz1, hz2⟩ := run_zeroT (P := P) (w := W) (β := Adr.nil) hz
        obtain ⟨x, y, q1, q2, q3⟩ := hz2
        obtain rfl : y = [] := q2
        obtain ⟨w, r1, r2⟩ := litA_is hlit q1
        rw [List.append_nil, r1] at q3
        have hzv : zv.cells.toList.length = 0 + 1 := by rw [q3]; rfl
        have e4 := flat_cells hzv n
        have e5 : (Array.range (n * 1)).map (fun i => zv.cells[i % zv.cells.size]!) = (List.replicate n w).toArray := by
          apply Array.toList_inj.1
          have : (List.replicate n w) = (List.replicate n zv.cells.toList).flatten := by rw [q3, replicate_one]
          rw [this, ← e4]
        have hwr : IntKind.i64.wrap (n : Int) = n := by
          simp only [IntKind.wrap, IntKind.bits, IntKind.signed]
          have e : (2 : Int) ^ 64 = 18446744073709551616 := by decide
          have e' : (2 : Int) ^ (64 - 1) = 9223372036854775808 := by decide
          simp only [e, e', Bool.true_and, decide_eq_true_eq]
          split <;> omega
        have hty : (typeInfo e).run P W = .ok i W := by simp [typeInfo, hi]
        have hbig : ¬ ((i.bytes : Int) * (n : Int) > 2 ^ 48) := by
          have e48 : (2 : Int) ^ 48 = 281474976710656 := by decide
          rw [e48]
          omega
        have hneg : ¬ ((n : Int) < 0) := by omega
        have ax : ∀ kx : IntKind, (asInt (.int kx (n : Int))).run P W = .ok (n : Int) W := fun kx => by simp [asInt, asIntOf]
        have hgt : ¬ ((n : Int) > (n : Int)) := by omega
        have hro : Atom.cells row' = List.replicate n w := by rw [Atom.many_ok hrow, r2, replicate_one]
        refine ⟨List.replicate n w, ?_, hro.symm, by simp, fun j hj => ⟨w, ?_, r2⟩⟩
        · rcases Nat.eq_zero_or_pos n with hz0 | hn0
          · subst hz0
            have hgt0 : ¬ ((0 : Int) > 0) := by omega
            simp only [Instr.makeSlice, Sem.run_bind, run_underlying hu, Result.andThen_ok, ax, hgt, Sem.run_pure, hty, hwr, hneg, hbig, decide_false, Bool.or_self, Bool.false_or, Int.lt_irrefl, if_false, Bool.false_eq_true, run_askRoom, run_sizeT hs, Int.toNat_natCast, Nat.zero_mul, if_true]
            have e0 : ∀ f : Nat → Value, Array.map f (Array.range 0) = #[] := fun f => by apply Array.ext'; simp [Array.toList_range]
            simp [newRow, e0]
          · have hn2 : ¬ n * 1 = 0 := by omega
            simp only [Instr.makeSlice, Sem.run_bind, run_underlying hu, Result.andThen_ok, ax, hgt, Sem.run_pure, hty, hwr, hneg, hbig, decide_false, Bool.or_self, Bool.false_or, Int.lt_irrefl, if_false, Bool.false_eq_true, run_askRoom, run_sizeT hs, Int.toNat_natCast, hn2, hz1, e5]
            simp [newRow]
        · rw [List.getElem?_replicate, if_pos (by simpa using hj)]
      · cases h
    · cases h
  · cases h
/-- Where nothing is called: an operation's value. -/
theorem opV_sound {c : Cfg A} (hc : CallsOK c) {X : Nat → Prop} {W0 W : World} {β : Adr} {st : St A} {a : Act} {o : Oper} {r : Option Nat} {n : Nat} {tv : TV A} {vc : List Prop}
    (ht : TRel β st.t a) (hm : MRel c X W0 β st.m W) (h : opV c st o.op = some (tv, vc)) (hvc : ∀ p ∈ vc, p) :
    Yld r n c.P o a W (fun v W' => ∃ K, Fresh W W' K ∧ tv.Is (β.know K) v ∧ Keeps W W') := by
  have key : ∀ {v : Value}, (∀ d, o.op ≠ .defer d) → (execOp a.eval o).run c.P W = .ok (.value v) W → tv.Is β v → Yld r n c.P o a W (fun v W' => ∃ K, Fresh W W' K ∧ tv.Is (β.know K) v ∧ Keeps W W') :=
    fun hd he hi => yld_value hd he ⟨fun _ _ => False, Fresh.none W W, hi.mono (Adr.le_know β _), Keeps.refl W⟩
  cases hop : o.op with
  | move x =>
    rw [hop] at h
    simp only [opV] at h
    split at h
    · rename_i v hv
      simp at h; obtain ⟨rfl, rfl⟩ := h
      exact key (v := a.eval x) (by simp [hop]) (by simp [execOp, hop]) (evO_is ht hm hv)
    · cases h
  | assign x =>
    rw [hop] at h
    simp only [opV] at h
    split at h
    · rename_i v hv
      simp at h; obtain ⟨rfl, rfl⟩ := h
      exact key (v := a.eval x) (by simp [hop]) (by simp [execOp, hop]) (evO_is ht hm hv)
    · cases h
  | pick q x y =>
    rw [hop] at h
    simp only [opV] at h
    split at h
    · rename_i qv hq
      split at h
      · rename_i b hb
        split at h
        · rename_i v hv
          simp at h; obtain ⟨rfl, rfl⟩ := h
          have e := boolOf_is (evO_is ht hm hq) hb
          refine key (v := if b then a.eval x else a.eval y) (by simp [hop]) (by simp [execOp, hop, asBool, e]) ?_
          have := evO_is ht hm hv
          cases b <;> simpa using this
        · cases h
      · cases h
    · cases h
  | fieldAddr t x f =>
    rw [hop] at h
    simp only [opV] at h
    split at h
    · rename_i xv hx
      split at h
      · rename_i i off fs ha hu
        split at h
        · rename_i fd hf
          split at h
          · rename_i sz hs
            simp at h; obtain ⟨rfl, rfl⟩ := h
            obtain ⟨b, hb, e⟩ := addrOf_is (evO_is ht hm hx) ha
            refine key (v := .pointer (some ⟨b, off + fd.offset, none⟩)) (by simp [hop]) ?_ (LIs.of_single ⟨b, hb, rfl⟩)
            simp [execOp, hop, Instr.fieldAt, run_underlying hu, hf, Instr.sureAddr, e, fieldPlace, run_sizeT hs, add_none]
          · cases h
        · cases h
      · rename_i fs ha hu
        split at h
        · rename_i ad g i fd hf
          split at h
          · rename_i sz hs
            simp at h; obtain ⟨rfl, rfl⟩ := h
            obtain ⟨b, hb, e⟩ := LIs.single (evO_is ht hm hx : LIs β _ [a.eval x])
            obtain rfl := Option.some.inj hb
            simp at e
            refine key (v := .pointer (some (ad.add (i + fd.offset)))) (by simp [hop]) ?_ (LIs.of_single ⟨ad, rfl, rfl⟩)
            simp [execOp, hop, Instr.fieldAt, run_underlying hu, hf, Instr.sureAddr, e, fieldPlace, run_sizeT hs, Addr.add_add]
          · cases h
        · cases h
      · cases h
    · cases h
  | nilCheck x =>
    rw [hop] at h
    simp only [opV] at h
    split at h
    · rename_i i off hx
      simp at h; obtain ⟨rfl, rfl⟩ := h
      obtain ⟨b, hb, e⟩ := LIs.single (evO_is ht hm hx : LIs β _ [a.eval x])
      simp at e
      exact key (v := a.eval x) (by simp [hop]) (by simp [execOp, hop, e]) (evO_is ht hm hx)
    · rename_i ad f i hx
      simp at h; obtain ⟨rfl, rfl⟩ := h
      obtain ⟨b, hb, e⟩ := LIs.single (evO_is ht hm hx : LIs β _ [a.eval x])
      simp at e
      exact key (v := a.eval x) (by simp [hop]) (by simp [execOp, hop, e]) (evO_is ht hm hx)
    · cases h
  | field t x f =>
    rw [hop] at h
    simp only [opV] at h
    split at h
    · rename_i l fs hx hu
      split at h
      · rename_i fd hf
        split at h
        · rename_i v hv
          simp at h; obtain ⟨rfl, rfl⟩ := h
          obtain ⟨vs, hvs, e⟩ := (evO_is ht hm hx : VIs β true l (a.eval x))
          obtain ⟨u, hu1, hu2⟩ := run_partV (P := c.P) (w := W) hv hvs
          refine key (v := u) (by simp [hop]) ?_ hu2
          simp [execOp, hop, Instr.field, run_underlying hu, hf, e, asAgg, hu1]
        · cases h
      · cases h
    · cases h
  | indexAddr t x ix =>
    rw [hop] at h
    simp only [opV] at h
    split at h
    · rename_i xv iv hx hi
      obtain ⟨z, h1, h2⟩ := indexAddrV_run (P := c.P) (w := W) h hvc (evK_is ht hm hx) (evO_is ht hm hi)
      exact key (v := z) (by simp [hop]) (by simp [execOp, hop, h1]) h2
    · cases h
  | index t x ix =>
    rw [hop] at h
    simp only [opV] at h
    split at h
    · rename_i xv iv hx hi
      obtain ⟨z, h1, h2⟩ := indexV_run (P := c.P) (w := W) h hvc (evO_is ht hm hx) (evO_is ht hm hi)
      exact key (v := z) (by simp [hop]) (by simp [execOp, hop, h1]) h2
    · cases h
  | load t x =>
    rw [hop] at h
    simp only [opV] at h
    split at h
    · rename_i xv hx
      obtain ⟨z, h1, h2⟩ := loadV_run hm h hvc (evO_is ht hm hx)
      exact key (v := z) (by simp [hop]) (by simp [execOp, hop, h1]) h2
    · cases h
  | extract x i =>
    rw [hop] at h
    simp only [opV] at h
    split at h
    · rename_i l hx
      split at h
      · rename_i g cs hn
        simp at h; obtain ⟨rfl, rfl⟩ := h
        obtain ⟨vs, hvs, e⟩ := (evO_is ht hm hx : TV.Is β (.tup l) (a.eval x))
        obtain ⟨v, hv, hi⟩ := hvs.nth hn
        refine key (v := v) (by simp [hop]) ?_ hi
        simp [execOp, hop, Instr.extract, e, hv]
      · cases h
    · cases h
  | binOp op t x y yt =>
    rw [hop] at h
    simp only [opV] at h
    split at h
    · rename_i xv yv hx hy
      split at h
      · obtain ⟨z, h1, h2, h3⟩ := divV_run (P := c.P) (w := W) (t := t) (x := x) (y := y) h hvc (evO_is ht hm hx) (evO_is ht hm hy)
        refine key (v := z) (by simp [hop]) ?_ h3
        simp [execOp, hop, h1, h2]
      · split at h
        · rename_i v hv
          simp at h; obtain ⟨rfl, rfl⟩ := h
          obtain ⟨z, h1, h2, h3⟩ := binV_run (P := c.P) (w := W) (x := x) (y := y) hv (evO_is ht hm hx) (evO_is ht hm hy)
          refine key (v := z) (by simp [hop]) ?_ h3
          simp [execOp, hop, h1, h2]
        · cases h
    · cases h
  | unOp op t x =>
    rw [hop] at h
    simp only [opV] at h
    split at h
    · rename_i xv hx
      split at h
      · rename_i v hv
        simp at h; obtain ⟨rfl, rfl⟩ := h
        obtain ⟨z, h1, h2⟩ := unV_run (P := c.P) (w := W) hv (evO_is ht hm hx)
        refine key (v := z) (by simp [hop]) ?_ h2
        simp [execOp, hop, h1]
      · cases h
    · cases h
  | convert src dst x =>
    rw [hop] at h
    simp only [opV] at h
    split at h
    · rename_i s d k hx hs hd
      split at h
      · rename_i l k' a' hi
        simp at h; obtain ⟨rfl, rfl⟩ := h
        have e := intOfSV_is (LIs.single (evO_is ht hm hx : LIs β _ [a.eval x])) hi
        refine key (v := .int k (k.wrap a')) (by simp [hop]) ?_ (LIs.of_single (mkW_is ..))
        simp [execOp, hop, convert, run_underlying hs, run_underlying hd, e, Conv.intToInt]
      · cases h
    · rename_i s e hx hs hd
      split at h
      · rename_i he
        split at h
        · rename_i x0 l hlit
          split at h
          · rename_i hlen
            simp only [Option.some.injEq, Prod.mk.injEq] at h
            obtain ⟨rfl, rfl⟩ := h
            have ex : a.eval x = .string s := by
              have := (LIs.single (evO_is ht hm hx : LIs β _ [a.eval x])).1
              simpa using this
            have hvs : LIs (A := A) β (s.data.toList.map fun b => .v (.int .u8 b.toNat)) (s.data.toList.map fun b => Value.int .u8 b.toNat) := by
              have := LIs.vs (A := A) (β := β) (vs := s.data.toList.map fun b => Value.int .u8 b.toNat) (fun v hv => by
                obtain ⟨b, _, rfl⟩ := List.mem_map.1 hv
                rfl)
              simpa [List.map_map, Function.comp_def] using this
            obtain ⟨q1, q2⟩ := litsA_is hlit hvs
            have hr := Lib.run_convert_string_bytes (P := c.P) W src dst e s hs hd he
            have hsz : s.data.toList.length = s.size := rfl
            have hge := grownCap_ge W s.size 0 e
            refine yld_value (v := .slice (some ⟨W.heap.size, 0, none⟩) s.size (grownCap W s.size 0 e)) (W' := Lib.bytesWorld W e s) (by simp [hop]) (by simp [execOp, hop, ex, hr]) ⟨fun a' u => ∃ j, j < s.size ∧ a' = ⟨W.heap.size, j, none⟩ ∧ u = .int .u8 (s.data.toList.getD j 0).toNat, ?_, LIs.of_single (.inr ⟨⟨W.heap.size, 0, none⟩, _, rfl, hge, fun j hj => ?_⟩), ?_⟩
            · rintro a' u ⟨j, hj, rfl, rfl⟩
              exact ⟨Lib.bytesWorld_cell W e s j hj, Nat.le_refl _⟩
            · rw [Nat.mul_one] at hj
              refine ⟨_, .inr ⟨j, hj, by rw [add_none, Nat.zero_add], rfl⟩, ?_⟩
              have hj2 : j < (x0 :: l).length := by rw [hlen]; exact hj
              obtain ⟨u, u1, u2⟩ := q2 j _ (List.getElem?_eq_getElem hj2)
              show Atom.cells (((x0 :: l)[0 + j]?).getD x0) = _
              rw [Nat.zero_add, List.getElem?_eq_getElem hj2]
              rw [List.getElem?_map] at u1
              have hj3 : j < s.data.toList.length := hj
              rw [List.getElem?_eq_getElem hj3] at u1
              simp only [Option.map_some, Option.some.injEq] at u1
              rw [List.getD_eq_getElem?_getD, List.getElem?_eq_getElem hj3]
              exact u2.trans (by rw [← u1]; rfl)
            · refine ⟨rfl, rfl, rfl, by rw [Lib.bytesWorld_size]; omega, fun k hk _ => Lib.bytesWorld_at_old W e s k hk⟩
          · cases h
        · cases h
      · cases h
    · rename_i xv e hx hs hd
      split at h
      · rename_i he
        split at h
        · rename_i g j n vc0 hsrc
          simp only [Option.some.injEq, Prod.mk.injEq] at h
          obtain ⟨rfl, rfl⟩ := h
          have hm0 : MRel c X W0 β [] W := hm.live (fun i blk hi => by cases i <;> simp [nth] at hi)
          obtain ⟨p, cp, news, eu, s1, s2, s3, s4⟩ := srcV_run hm0 hsrc (fun q hq => hvc q (by simp [hq])) (evO_is ht hm hx) (by omega)
          have hb : ∀ q, q < n → Atom.isByte (g (j + q)) = true := hvc _ (by simp)
          rw [Nat.mul_one] at s2
          have hn : news = ((List.range n).map fun q => Atom.byte (g (j + q))).map fun b => Value.int .u8 (b.toNat : Int) := by
            apply List.ext_getElem?
            intro q
            rcases Nat.lt_or_ge q n with hq | hq
            · have hq' : q < news.length := by omega
              have h1 := s4 q _ (List.getElem?_eq_getElem hq')
              rw [Atom.byte_ok (hb q hq)] at h1
              simp at h1
              rw [List.getElem?_eq_getElem hq', List.getElem?_map, List.getElem?_map, List.getElem?_range hq]
              simp [h1]
            · rw [List.getElem?_eq_none (by omega), List.getElem?_eq_none (by simpa using hq)]
          have hrun : (convert src dst (a.eval x)).run c.P W = .ok (.string ⟨((List.range n).map fun q => Atom.byte (g (j + q))).toArray⟩) W := by
            rw [eu, run_convert_bytes_string W src dst e p n cp hs he hd]
            cases p with
            | none =>
              obtain rfl := s1 rfl
              simp [Conv.bytesToString]
              rfl
            | some a0 =>
              have hl := run_loadCells_list (P := c.P) W a0 news (s3 a0 rfl)
              rw [s2] at hl
              have e2 : news = (((List.range n).map fun q => Atom.byte (g (j + q))).map fun b => (b.toNat : Int)).map (Value.int .u8) := by rw [hn]; simp [List.map_map, Function.comp_def]
              rw [e2] at hl
              rw [run_bytesToString W a0 n cp _ hl, foldl_push_bytes]
              simp [ByteArray.empty, ByteArray.emptyWithCapacity, List.map_map, Function.comp_def]
              rfl
          refine key (v := .string ⟨((List.range n).map fun q => Atom.byte (g (j + q))).toArray⟩) (by simp [hop]) (by simp [execOp, hop, hrun]) (LIs.of_single rfl)
        · cases h
      · cases h
    · cases h
  | build t parts =>
    rw [hop] at h
    simp only [opV] at h
    split at h
    · rename_i cells fs hz hu
      split at h
      · rename_i ps hp
        split at h
        · rename_i l hl
          simp at h; obtain ⟨rfl, rfl⟩ := h
          obtain ⟨z, hz1, hz2⟩ := run_zeroT (P := c.P) (w := W) (β := β) hz
          obtain ⟨us, hu1, hu2⟩ := fillV_run ht hm hl hz2
          refine key (v := .agg us.toArray) (by simp [hop]) ?_ ⟨us, hu2, rfl⟩
          have e1 : (fs.mapM (fun f => do pure (f.offset, ← sizeOf f.type) : Field → Sem (Nat × Nat))).run c.P W = .ok ps.toArray W := by
            rw [Array.mapM_eq_mapM_toList, Sem.run_map, placesOf_eq hp W]
            rfl
          have e2 : (fun i => ps.toArray[i]?) = fun i => nth ps i := by funext i; simp [nth_eq]
          have e3 : (parts.map fun x => (x.1, a.eval x.2)).toList = parts.toList.map fun x => (x.1, a.eval x.2) := by simp
          simp only [execOp, hop, Instr.build, Sem.run_bind, hz1, Result.andThen_ok, run_underlying hu, e1]
          rw [e2, e3]
          simp only [Array.toArray_toList] at hu1
          rw [hu1]
          rfl
        · cases h
      · cases h
    · rename_i cells len e hz hu
      split at h
      · rename_i sz hs
        split at h
        · rename_i l hl
          simp at h; obtain ⟨rfl, rfl⟩ := h
          obtain ⟨z, hz1, hz2⟩ := run_zeroT (P := c.P) (w := W) (β := β) hz
          obtain ⟨us, hu1, hu2⟩ := fillV_run ht hm hl hz2
          refine key (v := .agg us.toArray) (by simp [hop]) ?_ ⟨us, hu2, rfl⟩
          have e3 : (parts.map fun x => (x.1, a.eval x.2)).toList = parts.toList.map fun x => (x.1, a.eval x.2) := by simp
          simp only [execOp, hop, Instr.build, Sem.run_bind, hz1, Result.andThen_ok, run_underlying hu, run_sizeT hs]
          rw [e3]
          simp only [Array.toArray_toList] at hu1
          rw [hu1]
          rfl
        · cases h
      · cases h
    · cases h
  | slice t x lo hi mx =>
    rw [hop] at h
    simp only [opV] at h
    split at h
    · rename_i i off len e hx hu
      obtain ⟨l, hh, m, sz, rfl, rfl, hs, hr⟩ := sliceV_run ht hm h
      obtain ⟨b, hb, ex⟩ := LIs.single (evK_is ht hm hx : LIs β _ [a.eval x])
      simp at ex
      refine key (v := .slice (some ⟨b, if m = l then off else off + l * sz, none⟩) (hh - l) (m - l)) (by simp [hop]) ?_ (LIs.of_single ⟨b, hb, rfl⟩)
      simp only [execOp, hop, Instr.sliceAt, Sem.run_bind, run_underlying hu, Result.andThen_ok, ex, Instr.sureAddr, Sem.run_pure, hr false, run_sizeT hs, add_none]
      split <;> simp_all
    · rename_i i off len cap e hx hu
      obtain ⟨l, hh, m, sz, rfl, rfl, hs, hr⟩ := sliceV_run ht hm h
      obtain ⟨b, hb, ex⟩ := LIs.single (evK_is ht hm hx : LIs β _ [a.eval x])
      simp at ex
      refine key (v := .slice (some ⟨b, if m = l then off else off + l * sz, none⟩) (hh - l) (m - l)) (by simp [hop]) ?_ (LIs.of_single ⟨b, hb, rfl⟩)
      simp only [execOp, hop, Instr.sliceAt, Instr.slice, Sem.run_bind, run_underlying hu, Result.andThen_ok, ex, Sem.run_pure, hr true, run_sizeT hs, Option.map_some, add_none]
      split <;> simp_all
    · rename_i a' f i len cap e hx hu
      obtain ⟨l, hh, m, sz, rfl, hs, hl1, hl2, hl3, hr⟩ := sliceE_run ht hm h hvc
      have ex := LIs.single (evK_is ht hm hx : LIs β _ [a.eval x])
      cases a' with
      | none =>
        obtain ⟨rfl, rfl, e1⟩ := ex
        simp at e1
        have hm0 : m = 0 := by omega
        have hh0 : hh = 0 := by have := hl3 (Nat.le_refl _); omega
        have hl0 : l = 0 := by omega
        subst hm0; subst hh0; subst hl0
        refine key (v := .slice none 0 0) (by simp [hop]) ?_ (LIs.of_single ⟨rfl, rfl, rfl⟩)
        simp only [execOp, hop, Instr.sliceAt, Instr.slice, Sem.run_bind, run_underlying hu, Result.andThen_ok, e1, Sem.run_pure, hr true, run_sizeT hs]
        simp
      | some b =>
        obtain ⟨p, hp, hnc, e1⟩ := ex
        simp at e1
        refine key (v := .slice (some (if m = l then p else p.add (l * sz))) (hh - l) (m - l)) (by simp [hop]) ?_ (LIs.of_single ⟨_, fun h0 => ?_, ?_, rfl⟩)
        · simp only [execOp, hop, Instr.sliceAt, Instr.slice, Sem.run_bind, run_underlying hu, Result.andThen_ok, e1, Sem.run_pure, hr true, run_sizeT hs, Option.map_some]
          split <;> simp_all
        · rw [if_neg (by omega), hp (by omega), Addr.add_add, timesN_eq, Nat.add_comm]
        · have := hl3 hnc
          omega
    · rename_i f i len sz' e hx hu
      split at h
      · rename_i sz l hh vc' hs hb
        split at h
        · rename_i he
          simp at h; obtain ⟨rfl, rfl⟩ := h
          subst he
          have ex : knownIs β f i len sz [a.eval x] := LIs.single (evK_is ht hm hx : LIs β _ [a.eval x])
          rcases ex with ⟨rfl, e1⟩ | ⟨p, cp, e1, hnc, hk⟩
          · simp at e1
            obtain ⟨k1, k2, k3, m, k4, k5, k6⟩ := boundsH_run (cap := 0) ht hm hb hvc (Nat.le_refl _)
            have hm0 : m = 0 := by omega
            have hh0 : hh = 0 := by omega
            have hl0 : l = 0 := by omega
            subst hm0; subst hh0; subst hl0
            refine key (v := .slice none 0 0) (by simp [hop]) ?_ (LIs.of_single (.inl ⟨rfl, rfl⟩))
            simp only [execOp, hop, Instr.sliceAt, Instr.slice, Sem.run_bind, run_underlying hu, Result.andThen_ok, e1, Sem.run_pure, k6 true, run_sizeT hs]
            simp
          · simp at e1
            obtain ⟨k1, k2, k3, m, k4, k5, k6⟩ := boundsH_run ht hm hb hvc hnc
            refine key (v := .slice (some (if m = l then p else p.add (l * sz))) (hh - l) (m - l)) (by simp [hop]) ?_ (LIs.of_single (.inr ⟨_, _, rfl, by omega, ?_⟩))
            · simp only [execOp, hop, Instr.sliceAt, Instr.slice, Sem.run_bind, run_underlying hu, Result.andThen_ok, e1, Sem.run_pure, k6 true, run_sizeT hs, Option.map_some]
              split <;> simp_all
            · rw [k3]
              intro j hj
              have hml : ¬ m = l := by
                intro e0
                have : hh - l = 0 := by omega
                rw [this] at hj
                simp at hj
              rw [if_neg hml]
              have e2 : (hh - l) * sz = hh * sz - l * sz := Nat.sub_mul _ _ _
              have e3 : hh * sz ≤ len * sz := Nat.mul_le_mul_right _ k2
              obtain ⟨v, g1, g2⟩ := hk (l * sz + j) (by omega)
              refine ⟨v, by rw [Addr.add_add]; exact g1, ?_⟩
              rw [timesN_eq, show l * sz + i + j = i + (l * sz + j) by omega]
              exact g2
        · cases h
      · cases h
    · rename_i ad f i n0 e hx hu
      obtain ⟨l, hh, m, sz, rfl, hs, hl1, hl2, hl3, hr⟩ := sliceE_run ht hm h hvc
      obtain ⟨b, hb, ex⟩ := LIs.single (evK_is ht hm hx : LIs β _ [a.eval x])
      obtain rfl := Option.some.inj hb
      simp at ex
      refine key (v := .slice (some (if m = l then ad.add i else (ad.add i).add (l * sz))) (hh - l) (m - l)) (by simp [hop]) ?_ (LIs.of_single ⟨_, fun h0 => ?_, ?_, rfl⟩)
      · simp only [execOp, hop, Instr.sliceAt, Sem.run_bind, run_underlying hu, Result.andThen_ok, ex, Instr.sureAddr, Sem.run_pure, hr false, run_sizeT hs]
      · rw [if_neg (by omega), Addr.add_add, timesN_eq, Nat.add_comm]
      · have := hl3 (Nat.le_refl _)
        omega
    · cases h
  | sliceToArrayPointer arr x =>
    rw [hop] at h
    simp only [opV] at h
    split at h
    · rename_i i off n cp k e hx hu
      split at h
      · rename_i hk
        simp at h; obtain ⟨rfl, rfl⟩ := h
        obtain ⟨b, hb, ex⟩ := LIs.single (evK_is ht hm hx : LIs β _ [a.eval x])
        simp at ex
        refine key (v := .pointer (some ⟨b, off, none⟩)) (by simp [hop]) ?_ (LIs.of_single ⟨b, hb, rfl⟩)
        have hnk : ¬ n < k := by omega
        simp [execOp, hop, Instr.arrayAt, run_underlying hu, ex, hnk]
      · cases h
    · rename_i a' f i n cp k e hx hu
      simp at h; obtain ⟨rfl, rfl⟩ := h
      have hk := hvc (k + 1 ≤ n) (by simp)
      have hnk : ¬ n < k + 1 := by omega
      have ex : extIs a' i n cp [a.eval x] := LIs.single (evK_is ht hm hx : LIs β _ [a.eval x])
      cases a' with
      | none => obtain ⟨h0, _⟩ := ex; omega
      | some b =>
        obtain ⟨p, hp, hnc, e1⟩ := ex
        simp at e1
        refine key (v := .pointer (some p)) (by simp [hop]) ?_ (LIs.of_single ⟨b, rfl, by rw [hp (by omega)]⟩)
        simp [execOp, hop, Instr.arrayAt, run_underlying hu, e1, hnk]
    · rename_i f i n sz k e hx hu
      split at h
      · rename_i sz' hs
        split at h
        · rename_i he
          simp at h; obtain ⟨rfl, rfl⟩ := h
          subst he
          have hk := hvc (k + 1 ≤ n) (by simp)
          have hnk : ¬ n < k + 1 := by omega
          have ex : knownIs β f i n sz [a.eval x] := LIs.single (evK_is ht hm hx : LIs β _ [a.eval x])
          rcases ex with ⟨h0, _⟩ | ⟨p, cp, e1, hnc, hkn⟩
          · omega
          · simp at e1
            have hmul : (k + 1) * sz ≤ n * sz := Nat.mul_le_mul_right _ hk
            refine key (v := .pointer (some p)) (by simp [hop]) ?_ (LIs.of_single ⟨p, rfl, fun j hj => hkn j (by rw [timesN_eq] at hj; omega)⟩)
            simp [execOp, hop, Instr.arrayAt, run_underlying hu, e1, hnk]
        · cases h
      · cases h
    · cases h
  | makeFunc fn first captured =>
    rw [hop] at h
    cases fn with
    | func g =>
      simp only [opV] at h
      split at h
      · rename_i l hl
        split at h
        · rename_i cs hcs
          split at h
          · rename_i hf
            simp at h; obtain ⟨rfl, rfl⟩ := h
            have h1 := capsOf_is hcs (evL_is ht hm hl)
            refine key (v := .func (.func g) #[] (captured.toList.map a.eval).toArray) (by simp [hop]) ?_ (LIs.of_single ⟨_, h1, rfl⟩)
            have : first = #[] := by simpa using hf
            subst this
            have e : captured.map a.eval = (captured.toList.map a.eval).toArray := Array.toList_inj.1 (by simp)
            rw [← e]
            simp [execOp, hop, Instr.makeFunc]
          · cases h
        · cases h
      · cases h
    | _ => simp [opV] at h
  | makeSlice t x y =>
    rw [hop] at h
    simp only [opV] at h
    split at h
    · rename_i e kx n ky k hu hx hy
      split at h
      · rename_i i sz z hi hs hz
        split at h
        · rename_i hb
          split at h
          · rename_i hzl
            split at h
            · rename_i x0 l hlit
              split at h
              · rename_i hlen
                simp at h; obtain ⟨rfl, rfl⟩ := h
                obtain ⟨rfl, hle, hby⟩ := hb
                obtain ⟨zv, hz1, hz2⟩ := run_zeroT (P := c.P) (w := W) (β := β) hz
                obtain ⟨us, hus⟩ : ∃ us, us = (List.replicate n zv.cells.toList).flatten := ⟨_, rfl⟩
                have hu2 : LIs β (List.replicate n z).flatten us := by rw [hus]; exact hz2.replicate n
                obtain ⟨g1, g2⟩ := litsA_is hlit (flat_is hu2)
                refine yld_value (v := .slice (some ⟨W.heap.size, 0, none⟩) n n) (W' := W.alloc (.cells us.toArray e)) (by simp [hop]) ?_ ⟨fun a' u => ∃ j, j < n * (sz + 1) ∧ a' = (⟨W.heap.size, 0, none⟩ : Addr).add j ∧ us[j]? = some u, ?_, ?_, Keeps.alloc W _⟩
                · have hzv : zv.cells.toList.length = sz + 1 := by
                    have hone : lsize z = z.length := by
                      unfold zeroT at hz
                      split at hz
                      · split at hz
                        · split at hz
                          · rename_i v _ _
                            simp at hz; subst hz
                            generalize v.cells.toList = l
                            induction l with
                            | nil => rfl
                            | cons x l ih => simp [lsize, SV.size, ih]; omega
                          · cases hz
                        · cases hz
                      · cases hz
                    rw [hz2.len, hone, hzl]
                  have ex : a.eval x = .int kx n := by
                    have h1 := (LIs.single (evO_is ht hm hx : LIs β _ [a.eval x])).1
                    simpa using h1
                  have ey : a.eval y = .int ky n := by
                    have h1 := (LIs.single (evO_is ht hm hy : LIs β _ [a.eval y])).1
                    simpa using h1
                  have e4 := flat_cells hzv n
                  have e5 : (Array.range (n * (sz + 1))).map (fun i => zv.cells[i % zv.cells.size]!) = us.toArray := by
                    apply Array.toList_inj.1
                    rw [hus, ← e4]
                  have hn1 : n ≤ 4096 := Nat.le_trans (Nat.le_mul_of_pos_right n (by omega)) hle
                  have hwr : IntKind.i64.wrap (n : Int) = n := by
                    simp only [IntKind.wrap, IntKind.bits, IntKind.signed]
                    have e : (2 : Int) ^ 64 = 18446744073709551616 := by decide
                    have e' : (2 : Int) ^ (64 - 1) = 9223372036854775808 := by decide
                    simp only [e, e', Bool.true_and, decide_eq_true_eq]
                    split <;> omega
                  have hty : (typeInfo e).run c.P W = .ok i W := by simp [typeInfo, hi]
                  have hbig : ¬ ((i.bytes : Int) * (n : Int) > 2 ^ 48) := by
                    have this : ((i.bytes * n : Nat) : Int) ≤ 65536 := Int.ofNat_le.2 hby
                    have e48 : (2 : Int) ^ 48 = 281474976710656 := by decide
                    have e49 : (i.bytes : Int) * (n : Int) = ((i.bytes * n : Nat) : Int) := (Int.natCast_mul _ _).symm
                    rw [e48, e49]
                    omega
                  have hneg : ¬ ((n : Int) < 0) := by omega
                  have ax : ∀ kx : IntKind, (asInt (.int kx (n : Int))).run c.P W = .ok (n : Int) W := fun kx => by simp [asInt, asIntOf]
                  have hgt : ¬ ((n : Int) > (n : Int)) := by omega
                  have hn2 : ¬ n * (sz + 1) = 0 := by
                    have : (x0 :: l).length = n * (sz + 1) := hlen
                    simp at this
                    omega
                  have hs' : sizeT c.P e = some (sz + 1) := hs
                  simp only [execOp, hop, Instr.makeSlice, Sem.run_bind, run_underlying hu, Result.andThen_ok, ex, ey, ax, hgt, Sem.run_pure, hty, hwr, hneg, hbig, decide_false, Bool.or_self, Bool.false_or, Int.lt_irrefl, if_false, Bool.false_eq_true, run_askRoom, run_sizeT hs', Int.toNat_natCast, hn2, hz1, e5]
                  simp [newRow]
                · rintro a' u ⟨j, hj, rfl, hju⟩
                  have hh : (W.alloc (.cells us.toArray e)).heap[W.heap.size]? = some (.cells us.toArray e) := by
                    show (W.heap.push _)[W.heap.size]? = _
                    simp
                  rw [add_none, Nat.zero_add]
                  exact ⟨by rw [cell_of_row _ _ _ _ _ _ hh]; simpa using hju, Nat.le_refl _⟩
                · refine LIs.of_single (.inr ⟨⟨W.heap.size, 0, none⟩, n, rfl, Nat.le_refl _, fun j hj => ?_⟩)
                  have hj' : j < (x0 :: l).length := by rw [hlen]; omega
                  obtain ⟨u, u1, u2⟩ := g2 j _ (List.getElem?_eq_getElem hj')
                  refine ⟨u, .inr ⟨j, by omega, rfl, u1⟩, ?_⟩
                  have e9 : ((x0 :: l)[0 + j]?).getD x0 = (x0 :: l)[j] := by rw [Nat.zero_add, List.getElem?_eq_getElem hj']; rfl
                  show Atom.cells (((x0 :: l)[0 + j]?).getD x0) = [u]
                  rw [e9]
                  exact u2
              · cases h
            · cases h
          · cases h
        · cases h
      · cases h
    · rename_i e kx u ky v hu hx hy
      split at h
      · rename_i a0 row bytes hmk
        simp at h; obtain ⟨rfl, rfl⟩ := h
        have hmo : Makes bytes u v := hvc _ (by simp)
        have ex : a.eval x = .int kx u := by
          have h1 : [a.eval x] = [Value.int kx u] := LIs.single (evO_is ht hm hx : LIs β _ [a.eval x])
          simpa using h1
        have ey : a.eval y = .int ky v := by
          have h1 : [a.eval y] = [Value.int ky v] := LIs.single (evO_is ht hm hy : LIs β _ [a.eval y])
          simpa using h1
        obtain ⟨us, g1, g2, g3, g4⟩ := makeW_run (W := W) hu hmk hmo kx ky
        refine yld_value (v := .slice (some ⟨W.heap.size, 0, none⟩) u.toNat u.toNat) (W' := W.alloc (.cells us.toArray e)) (by simp [hop]) ?_ ⟨fun a' w => ∃ j, j < u.toNat ∧ a' = (⟨W.heap.size, 0, none⟩ : Addr).add j ∧ us[j]? = some w, ?_, ?_, Keeps.alloc W _⟩
        · simp only [execOp, hop, ex, ey, Sem.run_bind, g1]
          rfl
        · rintro a' w ⟨j, hj, rfl, hju⟩
          have hh : (W.alloc (.cells us.toArray e)).heap[W.heap.size]? = some (.cells us.toArray e) := by
            show (W.heap.push _)[W.heap.size]? = _
            simp
          rw [add_none, Nat.zero_add]
          exact ⟨by rw [cell_of_row _ _ _ _ _ _ hh]; simpa using hju, Nat.le_refl _⟩
        · refine LIs.of_single (.inr ⟨⟨W.heap.size, 0, none⟩, u.toNat, rfl, Nat.le_refl _, fun j hj => ?_⟩)
          obtain ⟨w, k1, k2⟩ := g4 j (by omega)
          exact ⟨w, .inr ⟨j, by omega, rfl, k1⟩, k2⟩
      · cases h
    · cases h
  | buildSlice t len parts =>
    rw [hop] at h
    simp only [opV] at h
    split at h
    · rename_i e hu
      split at h
      · rename_i sz z hs hz
        split at h
        · rename_i hle
          split at h
          · rename_i hzl
            split at h
            · rename_i cells hf
              split at h
              · rename_i x l hlit
                split at h
                · rename_i hlen
                  simp at h; obtain ⟨rfl, rfl⟩ := h
                  obtain ⟨zv, hz1, hz2⟩ := run_zeroT (P := c.P) (w := W) (β := β) hz
                  obtain ⟨us, hu1, hu2⟩ := fillV_run ht hm hf (hz2.replicate len)
                  obtain ⟨g1, g2⟩ := litsA_is hlit (flat_is hu2)
                  refine yld_value (v := .slice (some ⟨W.heap.size, 0, none⟩) len len) (W' := W.alloc (.cells us.toArray e)) (by simp [hop]) ?_ ⟨fun a' u => ∃ j, j < len * (sz + 1) ∧ a' = (⟨W.heap.size, 0, none⟩ : Addr).add j ∧ us[j]? = some u, ?_, ?_, Keeps.alloc W _⟩
                  · have hzv : zv.cells.toList.length = sz + 1 := by
                      have hone : lsize z = z.length := by
                        unfold zeroT at hz
                        split at hz
                        · split at hz
                          · split at hz
                            · rename_i v _ _
                              simp at hz; subst hz
                              generalize v.cells.toList = l
                              induction l with
                              | nil => rfl
                              | cons x l ih => simp [lsize, SV.size, ih]; omega
                            · cases hz
                          · cases hz
                        · cases hz
                      rw [hz2.len, hone, hzl]
                    have e3 : (parts.map fun x => (x.1, a.eval x.2)).toList = parts.toList.map fun x => (x.1, a.eval x.2) := by simp
                    have e4 := flat_cells hzv len
                    have e5 : (Array.range (len * (sz + 1))).map (fun i => zv.cells[i % zv.cells.size]!) = ((List.replicate len zv.cells.toList).flatten).toArray := by
                      apply Array.toList_inj.1
                      rw [← e4]
                    have hno : ¬ (len * (sz + 1) > 2 ^ 24) := by omega
                    have hlen0 : ¬ len * (sz + 1) = 0 := by
                      have : (x :: l).length = len * (sz + 1) := hlen
                      simp at this
                      omega
                    have hs' : sizeT c.P e = some (sz + 1) := hs
                    simp only [execOp, hop, Instr.buildSlice, Sem.run_bind, run_underlying hu, Result.andThen_ok, run_sizeT hs', Sem.run_ite, if_neg hno]
                    simp only [hlen0, if_false, hz1, Result.andThen_ok, Sem.run_pure]
                    rw [e5, e3, hu1]
                    simp [newRow]
                  · rintro a' u ⟨j, hj, rfl, hju⟩
                    have hh : (W.alloc (.cells us.toArray e)).heap[W.heap.size]? = some (.cells us.toArray e) := by
                      show (W.heap.push _)[W.heap.size]? = _
                      simp
                    rw [add_none, Nat.zero_add]
                    exact ⟨by rw [cell_of_row _ _ _ _ _ _ hh]; simpa using hju, Nat.le_refl _⟩
                  · refine LIs.of_single (.inr ⟨⟨W.heap.size, 0, none⟩, len, rfl, Nat.le_refl _, fun j hj => ?_⟩)
                    have hj' : j < (x :: l).length := by rw [hlen]; omega
                    obtain ⟨u, u1, u2⟩ := g2 j _ (List.getElem?_eq_getElem hj')
                    refine ⟨u, .inr ⟨j, by omega, rfl, u1⟩, ?_⟩
                    have e9 : ((x :: l)[0 + j]?).getD x = (x :: l)[j] := by rw [Nat.zero_add, List.getElem?_eq_getElem hj']; rfl
                    show Atom.cells (((x :: l)[0 + j]?).getD x) = [u]
                    rw [e9]
                    exact u2
                · cases h
              · cases h
            · cases h
          · cases h
        · cases h
      · cases h
    · cases h
  | call cl =>
    rw [hop] at h
    obtain ⟨callee, args, ats⟩ := cl
    cases callee with
    | value f =>
      cases f with
      | func g =>
        simp only [opV] at h
        split at h
        · rename_i l hl
          split at h
          · rename_i v vc' hcall
            simp at h; obtain ⟨rfl, rfl⟩ := h
            have hargs := evL_is ht hm hl
            have e : ∀ W, (execOp a.eval o).run c.P W = (callFunc g (args.toList.map a.eval).toArray).run c.P W := by
              intro W
              have e : args.map a.eval = (args.toList.map a.eval).toArray := Array.toList_inj.1 (by simp)
              rw [← e]
              simp [execOp, hop, resolve, Deferred.ofValue, Act.eval, invoke]
            rcases hc g l st.m v none vc' hcall hvc X W0 W β _ hm hargs with ⟨u, h1, h2⟩ | ⟨h1, h2⟩
            · exact yld_value (by simp [hop]) (by rw [e]; exact h1) h2
            · exact yld_enter (by simp [hop]) (by rw [e]; exact h1) h2
          · cases h
        · cases h
      | _ => simp [opV] at h
    | builtin b =>
      cases b with
      | len =>
        simp only [opV] at h
        split at h
        · rename_i xv t hl hat
          split at h
          · rename_i v' hv
            simp at h; obtain ⟨rfl, rfl⟩ := h
            obtain ⟨v, r', h1, h2, h3⟩ := evL_is ht hm hl
            obtain rfl : r' = [] := h2
            obtain ⟨z, k1, k2⟩ := lenV_run (P := c.P) (w := W) (ty := o.type) hv (asKn_is h1) hat
            have hargs : args.map a.eval = #[v] := by
              apply Array.toList_inj.1; simpa using h3
            refine key (v := z) (by simp [hop]) ?_ k2
            simp [execOp, hop, resolve, invoke, builtin, hargs, k1]
          · cases h
        · cases h
      | append =>
        simp only [opV] at h
        split at h
        · rename_i xv yv t t' hl hat
          split at h
          · rename_i htt
            subst htt
            split at h
            · rename_i e hu
              split at h
              · rename_i inf sz z hinf hs hz
                split at h
                · rename_i hzl
                  obtain ⟨ux, r1, hx, ⟨uy, r2, hy, hr2, e2⟩, e1⟩ := evL_is ht hm hl
                  obtain rfl : r2 = [] := hr2
                  subst e2
                  have hsz : inf.size = sz + 1 := by unfold sizeT at hs; rw [hinf] at hs; exact Option.some.inj hs
                  obtain ⟨zv, hz1, hz2⟩ := zero_of (w := W) (β := β) hinf hz hzl
                  obtain ⟨rv, W', K, k1, k2, k3, k4⟩ := appendK_run (t := t) (ty := o.type) hm h hvc hu hinf hsz (by omega) hz1 hz2 hx hy
                  have hats : ats = #[t, t] := by apply Array.toList_inj.1; simpa using hat
                  have hargs : args.map a.eval = #[ux, uy] := by apply Array.toList_inj.1; simpa using e1
                  refine yld_value (v := rv) (W' := W') (by simp [hop]) ?_ ⟨K, k2, k3, k4⟩
                  subst hats
                  simp [execOp, hop, resolve, invoke, builtin, hargs, k1]
                · cases h
              · cases h
            · cases h
          · cases h
        · cases h
      | max =>
        simp only [opV] at h
        split at h
        · rename_i l hl
          split at h
          · rename_i v hv
            simp at h; obtain ⟨rfl, rfl⟩ := h
            obtain ⟨z, h1, h2⟩ := extV_run (P := c.P) (w := W) hv (evL_is ht hm hl) ats ats o.type
            refine key (v := z) (by simp [hop]) ?_ h2
            have e : args.map a.eval = (args.toList.map a.eval).toArray := Array.toList_inj.1 (by simp)
            rw [← e] at h1
            simp [execOp, hop, resolve, invoke, builtin, h1]
          · cases h
        · cases h
      | min =>
        simp only [opV] at h
        split at h
        · rename_i l hl
          split at h
          · rename_i v hv
            simp at h; obtain ⟨rfl, rfl⟩ := h
            obtain ⟨z, h1, h2⟩ := extV_run (P := c.P) (w := W) hv (evL_is ht hm hl) ats ats o.type
            refine key (v := z) (by simp [hop]) ?_ h2
            have e : args.map a.eval = (args.toList.map a.eval).toArray := Array.toList_inj.1 (by simp)
            rw [← e] at h1
            simp [execOp, hop, resolve, invoke, builtin, h1]
          · cases h
        · cases h
      | _ => simp [opV] at h
    | invoke r m => simp [opV] at h
  | _ => rw [hop] at h; simp [opV] at h

end
end Go.Sh
