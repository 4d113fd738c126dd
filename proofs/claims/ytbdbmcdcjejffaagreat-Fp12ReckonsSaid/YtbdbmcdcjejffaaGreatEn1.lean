/- The shadow machine: a computable reading of the model's code over shadows of values (what a value is made of, with addresses by number), so that the kernel can run a function on symbolic arguments. Definitions only. -/
import Derived.WalkKit
import Derived.LoopNIn
import Derived.TacticsIn
import Derived.OrdersIn
import Derived.Laws.CopyRow
import Derived.Laws.Rows
import Derived.RangeFuncNested
import Derived.ChangeKeysEq
set_option linter.unusedVariables false
set_option linter.unusedSimpArgs false
set_option linter.unusedSectionVars false
namespace Go.Sh

/-- What several cells stand for at once. -/
class Atom (A : Type) where
  cells : A → List Value
  size : A → Nat
  len : ∀ a, (cells a).length = size a
  one : ∀ a, ∀ v ∈ cells a, v.oneCell' = true
  /-- one number? -/
  int : A → Option (IntKind × Int)
  int_ok : ∀ {a k z}, int a = some (k, z) → cells a = [.int k z]
  /-- a number of a kind, wrapped round -/
  wrap : IntKind → Int → Option A
  wrap_ok : ∀ {k z a}, wrap k z = some a → cells a = [.int k (k.wrap z)]
  /-- a number shifted down -/
  shr : A → Nat → Option A
  shr_ok : ∀ {a b m k z}, shr a m = some b → int a = some (k, z) → cells b = [.int k (z.fdiv (2 ^ m))]
  /-- a row of cells, one by one -/
  parts : A → Option (List A)
  parts_ok : ∀ {a l}, parts a = some l → cells a = (l.map cells).flatten ∧ ∀ x ∈ l, size x = 1
  /-- cells as a row -/
  pack : List A → Option A
  pack_ok : ∀ {l b}, pack l = some b → cells b = (l.map cells).flatten
  /-- a row's cell -/
  get : A → Nat → Option A
  get_ok : ∀ {a i b}, get a i = some b → i < size a → ∃ v, (cells a)[i]? = some v ∧ cells b = [v]
  /-- a row with one cell written -/
  set : A → Nat → A → Option A
  set_ok : ∀ {a i b c}, set a i b = some c → i < size a → ∃ v, cells b = [v] ∧ cells c = (cells a).set i v
  /-- a row, as an atom of the kind of another one -/
  like : A → A → Option A
  like_ok : ∀ {a r b}, like a r = some b → cells b = cells r

/-- A shadow of one cell, or of several (an atom). -/
inductive SV (A : Type) where
  | v (x : Value)
  | n (k : IntKind) (x : Int)
  | b (x : Bool)
  | p (i off : Nat)
  | s (i off len cap : Nat)
  | f (g : FuncId) (cap : List (Nat × Nat))
  | a (x : A)
  /-- cell z of the row of len cells at off in block i -/
  | r (i off len z : Nat)
  /-- a slice of memory that is not ours: n cells from cell i on (c with the spare ones) of what lies at a; cell j is (f j) -/
  | e (a : Option Addr) (f : Nat → A) (i n c : Nat)
  /-- the address of its cell i -/
  | q (a : Option Addr) (f : Nat → A) (i : Nat)
  /-- the yield of the loop whose record is block i -/
  | y (i : Nat)
  /-- a number that is still to be wrapped round -/
  | w (k : IntKind) (x : Int)
  /-- n elements, of sz cells each, of a slice whose cells hold for good: cell j is (f (i + j)) -/
  | kn (f : Nat → A) (i n sz : Nat)
  /-- the address of such a cell: k cells from there on are told -/
  | ka (f : Nat → A) (i k : Nat)
  /-- n elements of the growing slice i as it was at its turn v: from element d on, which is cell off -/
  | gr (i v off d n : Nat)
  /-- the address of its cell off -/
  | ga (i v off : Nat)
  /-- (ahead of a growing slice's cells:) its turn, its number of elements -/
  | mk (v n : Nat)
  /-- a text -/
  | tx (l : List UInt8)

/-- A shadow of a value: one cell, or an aggregate's cells; or several values. -/
inductive TV (A : Type) where
  | val (agg : Bool) (l : List (SV A))
  | tup (l : List (Bool × List (SV A)))
  | any

structure Blk (A : Type) where
  cells : List (SV A)
  ty : TypeId
  ro : Bool

/-- A growing slice: its turn, its number of elements, its cells. -/
def Blk.vec {A : Type} (b : Blk A) : Option (Nat × Nat × List (SV A)) :=
  match b.cells with
  | .mk v n :: l => some (v, n, l)
  | _ => none

abbrev Mem (A : Type) := List (Option (Blk A))

/-- How a piece of code is left. -/
inductive Ex where
  | normal
  | ret
  | exit (id : Nat)

/-- The loops over functions whose yield is at hand, the innermost first: by which jump each one's rounds are over, if they are. -/
abbrev Pds := List (Option Ex)

structure St (A : Type) where
  t : List (TV A)
  m : Mem A
  rd : Nat
  vc : List Prop
  pd : Pds

/-- A loop over a function that is under way: the number of its record, what it binds, its code, its frame's slots. -/
structure Ys (A : Type) where
  ix : Nat
  ps : List Tmp
  assign : Code
  body : Code
  t : List (TV A)

/-- A call of yield: the record's number, the arguments, the round's number, the memory, the jumps: whether the loop goes on, the memory behind it, the jumps, what must hold. -/
abbrev YF (A : Type) := Nat → List (TV A) → Nat → Mem A → Pds → Option (Bool × Mem A × Pds × List Prop)

/-- The jump that is pending. -/
def Ex.code : Ex → Code
  | .normal => .skip
  | .ret => .ret
  | .exit id => .exit id

def Ex.toExit : Ex → Exit
  | .normal => .normal
  | .ret => .ret
  | .exit id => .exit id

/-- What becomes of a Bool that has just been yielded: it is kept as it is; it is taken to be b (and that must hold); it is reckoned out. -/
inductive Dec where
  | keep
  | take (b : Bool)
  | eval

structure Cfg (A : Type) where
  P : Program
  gl : Nat → Option Nat
  orc : Nat → Nat → Dec
  /-- is a number's being in its bounds asked for, rather than the number wrapped round? -/
  nw : Bool := true
  call : FuncId → List (TV A) → Mem A → Option (TV A × Option (Mem A) × List Prop)
  /-- what lies in memory that is not ours -/
  old : Addr → Option Value := fun _ => none
  /-- loops that are told: by the number of their first region: the state ahead, how it is left, the state behind -/
  lp : Nat → Option (St A × Ex × St A) := fun _ => none
  /-- the loops over functions whose yield is at hand -/
  ys : List (Ys A) := []
  yf : YF A := fun _ _ _ _ _ => none
  /-- functions that are ranged over: how one is run, where yield does what is told -/
  it : FuncId → List (Ys A) → YF A → List (TV A) → Nat → Mem A → Pds → Option (Mem A × Pds × List Prop) := fun _ _ _ _ _ _ _ => none

section
variable {A : Type} [Atom A]

def nth {α : Type} : List α → Nat → Option α
  | [], _ => none
  | x :: _, 0 => some x
  | _ :: l, n + 1 => nth l n

def setN {α : Type} : List α → Nat → α → List α
  | [], _, _ => []
  | _ :: l, 0, y => y :: l
  | x :: l, n + 1, y => x :: setN l n y

def SV.size : SV A → Nat
  | .a x => Atom.size x
  | _ => 1

def lsize : List (SV A) → Nat
  | [] => 0
  | s :: l => s.size + lsize l

def explode : SV A → List (SV A)
  | .a x =>
    match Atom.parts x with
    | some l => l.map .a
    | none => (Atom.cells x).map .v
  | s => [s]

/-- Rows, cell by cell. -/
def flat : List (SV A) → List (SV A)
  | [] => []
  | .a x :: l =>
    match Atom.parts x with
    | some r => r.map .a ++ flat l
    | none => .a x :: flat l
  | s :: l => s :: flat l

/-- A cell as an atom. -/
def atomOf : SV A → Option A
  | .a x => some x
  | .v (.int k z) => if k.wrap z = z then Atom.wrap k z else none
  | _ => none

def atomsOf : List (SV A) → Option (List A)
  | [] => some []
  | s :: l =>
    match atomOf s, atomsOf l with
    | some x, some r => some (x :: r)
    | _, _ => none

/-- Cells as one row. -/
def rowA (l : List (SV A)) : Option A :=
  match l with
  | [.a x] => some x
  | l =>
    match atomsOf l with
    | some r => Atom.pack r
    | none => none

/-- n cells from i on. -/
def extCells (f : Nat → A) (i : Nat) : Nat → List (SV A)
  | 0 => []
  | n + 1 => .a (f i) :: extCells f (i + 1) n

/-- Memory that is not ours holds what is said. -/
def Reads (old : Addr → Option Value) (a : Option Addr) (f : Nat → A) (i n : Nat) : Prop :=
  ∀ b, a = some b → ∀ j, j < n → ∃ v, old (b.add (i + j)) = some v ∧ Atom.cells (f (i + j)) = [v]

/-- The first n cells, and the rest; an atom that lies across is broken into its cells. -/
def splitC : List (SV A) → Nat → Option (List (SV A) × List (SV A))
  | l, 0 => some ([], l)
  | [], _ + 1 => none
  | s :: l, n + 1 =>
    if s.size ≤ n + 1 then
      match splitC l (n + 1 - s.size) with
      | some (x, y) => some (s :: x, y)
      | none => none
    else some ((explode s).take (n + 1), (explode s).drop (n + 1) ++ l)

/-- Cells off .. off + n. -/
def cut (l : List (SV A)) (off n : Nat) : Option (List (SV A)) :=
  match splitC l off with
  | some (_, r) =>
    match splitC r n with
    | some (x, _) => some x
    | none => none
  | none => none

/-- Cells off .. off + size of x, written over. -/
def over (l : List (SV A)) (off : Nat) (x : List (SV A)) : Option (List (SV A)) :=
  match splitC l off with
  | some (h, r) =>
    match splitC r (lsize x) with
    | some (_, r') => some (h ++ (x ++ r'))
    | none => none
  | none => none

def undefT : TV A := .tup []

def isAggB (P : Program) (t : TypeId) : Option Bool :=
  match P.underlying t with
  | some (.struct _) | some (.array _ _) => some true
  | some _ => some false
  | none => none

def sizeT (P : Program) (t : TypeId) : Option Nat :=
  match P.info? t with
  | some i => some i.size
  | none => none

def zeroT (P : Program) (t : TypeId) : Option (List (SV A)) :=
  match P.info? t with
  | some i =>
    match i.zero with
    | some v => if v.cells.toList.all (·.oneCell') then some (v.cells.toList.map .v) else none
    | none => none
  | none => none

/-- A part of an aggregate, as a value of type t. -/
def partV (P : Program) (t : TypeId) (l : List (SV A)) (off : Nat) : Option (TV A) :=
  match isAggB P t, sizeT P t with
  | some true, some n =>
    match cut l off n with
    | some x => some (.val true x)
    | none => none
  | some false, some _ =>
    match cut l off 1 with
    | some x => some (.val false x)
    | none => none
  | _, _ => none

def ofConst (v : Value) : Option (TV A) :=
  match v with
  | .agg cs => if cs.toList.all (·.oneCell') then some (.val true (cs.toList.map .v)) else none
  | .tuple _ => none
  | v => some (.val false [.v v])

def evO (c : Cfg A) (st : St A) : Operand → Option (TV A)
  | .tmp t => nth st.t t
  | .const v => ofConst v
  | .global g =>
    match c.gl g with
    | some i => some (.val false [.p i 0])
    | none => none
  | .func f => some (.val false [.f f []])

/-- A Bool that is known. -/
def boolOf (tv : TV A) : Option Bool :=
  match tv with
  | .val false [.v (.bool b)] => some b
  | _ => none

/-- A Bool that has just been yielded, decided by the oracle: what must hold. -/
def decT (c : Cfg A) (rd : Nat) (d : Option Tmp) (v : TV A) : TV A × List Prop :=
  match d with
  | some d =>
    match v with
    | .val false [.b x] =>
      match c.orc rd d with
      | .take l => (.val false [.v (.bool l)], [x = l])
      | .eval => (.val false [.v (.bool (match x with | true => true | false => false))], [])
      | .keep => (v, [])
    | .val false [.w k x] => (match c.nw with | true => (.val false [.n k x], [k.wrap x = x]) | false => (.val false [.n k (k.wrap x)], []))
    | _ => (v, [])
  | none => (v, [])

/-- A number that is known. -/
def litOf : TV A → Option Int
  | .val false [.v (.int _ x)] => some x
  | _ => none

def natOf (x : Int) : Option Nat :=
  match x with
  | .ofNat n => some n
  | .negSucc _ => none

def intOfSV : SV A → Option (Bool × IntKind × Int)
  | .v (.int k x) => some (true, k, x)
  | .n k x => some (false, k, x)
  | .a x =>
    match Atom.int x with
    | some (k, z) => some (false, k, z)
    | none => none
  | _ => none

/-- The number, wrapped round. -/
def mkW (lit : Bool) (k : IntKind) (x : Int) : SV A :=
  if lit then .v (.int k (k.wrap x))
  else
    match Atom.wrap k x with
    | some y => .a y
    | none => .w k x
def mkB (lit : Bool) (x : Bool) : SV A := if lit then .v (.bool x) else .b x

def boolSV : SV A → Option (Bool × Bool)
  | .v (.bool x) => some (true, x)
  | .b x => some (false, x)
  | _ => none

/-- What is wrapped round in the end. -/
def arith : BinOp → IntKind → Int → Int → Option Int
  | .add, _, x, y => some (x + y)
  | .sub, _, x, y => some (x - y)
  | .mul, _, x, y => some (x * y)
  | .and, k, x, y => some (BitVec.ofInt k.bits x &&& BitVec.ofInt k.bits y).toNat
  | .or, k, x, y => some (BitVec.ofInt k.bits x ||| BitVec.ofInt k.bits y).toNat
  | .xor, k, x, y => some (BitVec.ofInt k.bits x ^^^ BitVec.ofInt k.bits y).toNat
  | .andNot, k, x, y => some (BitVec.ofInt k.bits x &&& ~~~BitVec.ofInt k.bits y).toNat
  | _, _, _, _ => none

def compare : BinOp → Int → Int → Option Bool
  | .eql, x, y => some (x == y)
  | .neq, x, y => some (x != y)
  | .lss, x, y => some (decide (x < y))
  | .leq, x, y => some (decide (x ≤ y))
  | .gtr, x, y => some (decide (x > y))
  | .geq, x, y => some (decide (x ≥ y))
  | _, _, _ => none

/-- Are two rows of numbers the same? (Whether that is known; whether it is so.) -/
def eqRows : List (SV A) → List (SV A) → Option (Bool × Bool)
  | [], [] => some (true, true)
  | x :: l, y :: r =>
    match intOfSV x, intOfSV y, eqRows l r with
    | some (lx, kx, a), some (ly, ky, b), some (lit, e) => if kx = ky then some (lx && ly && lit, (a == b) && e) else none
    | _, _, _ => none
  | _, _ => none

/-- The fields' cells, in order and without gaps. -/
def flatFs (P : Program) (f : TypeId → Option Nat) : Nat → List Field → Option Nat
  | off, [] => some off
  | off, x :: l =>
    match f x.type with
    | some m => if x.offset = off then (if x.name = "_" then none else flatFs P f (off + m) l) else none
    | none => none

/-- How many cells has a type that is made of whole numbers alone? -/
def flatI (P : Program) : Nat → TypeId → Option Nat
  | 0, _ => none
  | n + 1, t =>
    match P.underlying t, sizeT P t with
    | some (.int _), some 1 => some 1
    | some (.array k e), some s =>
      match flatI P n e with
      | some m => if k * m = s then some s else none
      | none => none
    | some (.struct fs), some s => if P.stoodInHeld t then none else (if flatFs P (flatI P n) 0 fs.toList = some s then some s else none)
    | _, _ => none

/-- A number shifted: s is its shadow. -/
def shiftK (op : BinOp) (s : SV A) (lit : Bool) (k : IntKind) (x : Int) (ly : Bool) (m : Nat) : Option (SV A) :=
  match op with
  | .shl => some (mkW (lit && ly) k (x * 2 ^ min m k.bits))
  | .shr =>
    match s with
    | .v _ => some (if ly then .v (.int k (x.fdiv (2 ^ min m k.bits))) else .n k (x.fdiv (2 ^ min m k.bits)))
    | .a z =>
      match Atom.shr z (min m k.bits) with
      | some z' => some (.a z')
      | none => some (.n k (x.fdiv (2 ^ min m k.bits)))
    | _ => some (.n k (x.fdiv (2 ^ min m k.bits)))
  | _ => none

def binV (P : Program) (op : BinOp) (t : TypeId) : TV A → TV A → Option (TV A)
  | .val false [x], .val false [y] =>
    match intOfSV x, intOfSV y with
    | some (lx, kx, a), some (ly, ky, b) =>
      match op with
      | .shl | .shr => none
      | _ =>
        if kx = ky then
          match arith op kx a b with
          | some r => some (.val false [mkW (lx && ly) kx r])
          | none =>
            match compare op a b with
            | some r => some (.val false [mkB (lx && ly) r])
            | none => none
        else none
    | _, _ =>
      match boolSV x, boolSV y, P.underlying t with
      | some (lx, a), some (ly, b), some .bool =>
        match op with
        | .eql => some (.val false [mkB (lx && ly) (a == b)])
        | .neq => some (.val false [mkB (lx && ly) (!(a == b))])
        | _ => none
      | _, _, _ => none
  | .val true l, .val true r =>
    match op, isAggB P t, flatI P 6 t, eqRows (flat l) (flat r) with
    | .eql, some true, some n, some (lit, q) => if (flat l).length = n then some (.val false [mkB lit q]) else none
    | .neq, some true, some n, some (lit, q) => if (flat l).length = n then some (.val false [mkB lit !q]) else none
    | _, _, _, _ => none
  | _, _ => none

def isShift : BinOp → Bool
  | .shl | .shr => true
  | _ => false

/-- A quotient or a remainder: what must hold is that the divisor isn't 0 (and that the remainder is of the kind). -/
def divV (op : BinOp) : TV A → TV A → Option (TV A × List Prop)
  | .val false [x], .val false [y] =>
    match intOfSV x, intOfSV y with
    | some (lx, kx, a), some (ly, ky, b) =>
      if isShift op then
        if ly then
          match natOf b with
          | some m => (match shiftK op x lx kx a true m with | some r => some (.val false [r], []) | none => none)
          | none => none
        else (match shiftK op x lx kx a false b.toNat with | some r => some (.val false [r], [0 ≤ b]) | none => none)
      else if kx = ky then
        match op with
        | .quo => if ly then (if b = 0 then none else some (.val false [mkW lx kx (a.tdiv b)], [])) else some (.val false [mkW false kx (a.tdiv b)], [b ≠ 0])
        | .rem =>
          if lx && ly then (if b = 0 then none else some (.val false [.v (.int kx (a.tmod b))], []))
          else
            match Atom.wrap kx (a.tmod b) with
            | some y => some (.val false [.a y], [b ≠ 0 ∧ kx.wrap (a.tmod b) = a.tmod b])
            | none => if ly then (if b = 0 then none else some (.val false [.n kx (a.tmod b)], [])) else some (.val false [.n kx (a.tmod b)], [b ≠ 0])
        | _ => none
      else none
    | _, _ => none
  | _, _ => none

def isDiv : BinOp → Bool
  | .quo | .rem | .shl | .shr => true
  | _ => false

/-- The greater, the lesser, of two numbers. -/
def extV (mx : Bool) : List (TV A) → Option (TV A)
  | [.val false [x], .val false [y]] =>
    match intOfSV x, intOfSV y with
    | some (lx, kx, a), some (ly, _, b) => some (.val false [if lx && ly then .v (.int kx (if (if mx then b > a else b < a) then b else a)) else .n kx (if (if mx then b > a else b < a) then b else a)])
    | _, _ => none
  | _ => none

def unV (op : UnOp) : TV A → Option (TV A)
  | .val false [.v (.bool b)] => match op with | .not => some (.val false [.v (.bool !b)]) | _ => none
  | .val false [.b b] => match op with | .not => some (.val false [.b !b]) | _ => none
  | .val false [x] =>
    match intOfSV x with
    | some (l, k, a) =>
      match op with
      | .neg => some (.val false [mkW l k (0 - a)])
      | .xor => some (.val false [mkW l k (BitVec.ofInt k.bits (if k.signed then -1 else k.max) ^^^ BitVec.ofInt k.bits a).toNat])
      | _ => none
    | none => none
  | _ => none

def placesOf (P : Program) (fs : List Field) : Option (List (Nat × Nat)) :=
  match fs with
  | [] => some []
  | f :: r =>
    match sizeT P f.type, placesOf P r with
    | some n, some l => some ((f.offset, n) :: l)
    | _, _ => none

def cellsT : TV A → Option (List (SV A))
  | .val _ l => some l
  | _ => none

/-- The cells of an aggregate, with parts laid over. -/
def fillV (place : Nat → Option (Nat × Nat)) (c : Cfg A) (st : St A) : List (SV A) → List (Nat × Operand) → Option (List (SV A))
  | cells, [] => some cells
  | cells, (i, x) :: rest =>
    match place i, evO c st x with
    | some (off, size), some tv =>
      match cellsT tv with
      | some l =>
        if lsize l = size then
          match over cells off l with
          | some cells' => fillV place c st cells' rest
          | none => none
        else none
      | none => none
    | _, _ => none

def evL (c : Cfg A) (st : St A) : List Operand → Option (List (TV A))
  | [] => some []
  | x :: r =>
    match evO c st x, evL c st r with
    | some v, some l => some (v :: l)
    | _, _ => none

def addrOf : TV A → Option (Nat × Nat)
  | .val false [.p i off] => some (i, off)
  | _ => none

def capsOf : List (TV A) → Option (List (Nat × Nat))
  | [] => some []
  | tv :: r =>
    match addrOf tv, capsOf r with
    | some a, some l => some (a :: l)
    | _, _ => none

/-- A bound of a slice: at most y; where none is told: d. -/
def bndO (c : Cfg A) (st : St A) (y d : Nat) : Option Operand → Option Nat
  | none => some d
  | some x =>
    match evO c st x with
    | some tv =>
      match litOf tv with
      | some z =>
        match natOf z with
        | some k => if k ≤ y then some k else none
        | none => none
      | none => none
    | none => none

def sliceV (c : Cfg A) (st : St A) (i off len cap : Nat) (e : TypeId) (lo hi mx : Option Operand) : Option (TV A × List Prop) :=
  if mx.isSome && hi.isNone then none
  else
    match bndO c st cap cap mx, sizeT c.P e with
    | some m, some sz =>
      match bndO c st m len hi with
      | some h =>
        match bndO c st h 0 lo with
        | some l => some (.val false [.s i (if m = l then off else off + l * sz) (h - l) (m - l)], [])
        | none => none
      | none => none
    | _, _ => none

/-- A number, literal or not. -/
def numOf : TV A → Option (Bool × Int)
  | .val false [s] =>
    match intOfSV s with
    | some (l, _, z) => some (l, z)
    | none => none
  | _ => none

/-- k elements of so many cells. -/
def timesN (k : Nat) : Nat → Nat
  | 1 => k
  | s => k * s
omit [Atom A] in
theorem timesN_eq (k s : Nat) : timesN k s = k * s := by
  unfold timesN
  split
  · omega
  · rfl

/-- Where a part of a slice begins. -/
def startN (lo : Option Operand) (i l sz : Nat) : Nat :=
  match lo with
  | none => i
  | some _ => timesN l sz + i

/-- The address of an element. -/
def indexAddrV (P : Program) (t : TypeId) (xv iv : TV A) : Option (TV A × List Prop) :=
  match numOf iv with
  | some (lit, z) =>
    match P.underlying t, xv with
    | some (.array n e), .val false [.p i off] =>
      match sizeT P e with
      | some sz =>
        if lit then
          match natOf z with
          | some k => if k < n then some (.val false [.p i (off + k * sz)], []) else none
          | none => none
        else if sz = 1 then some (.val false [.r i off n z.toNat], [0 ≤ z ∧ z < n]) else none
      | none => none
    | some (.slice e), .val false [.s i off n _] =>
      match sizeT P e with
      | some sz =>
        if lit then
          match natOf z with
          | some k => if k < n then some (.val false [.p i (off + k * sz)], []) else none
          | none => none
        else if sz = 1 then some (.val false [.r i off n z.toNat], [0 ≤ z ∧ z < n]) else none
      | none => none
    | some (.slice e), .val false [.e a f i n _] =>
      match sizeT P e with
      | some sz => some (.val false [.q a f (timesN z.toNat sz + i)], [0 ≤ z ∧ z < n])
      | none => none
    | some (.slice e), .val false [.kn f i n sz'] =>
      match sizeT P e with
      | some sz => if sz = sz' then some (.val false [.ka f (timesN z.toNat sz + i) sz], [0 ≤ z ∧ z < n]) else none
      | none => none
    | _, _ => none
  | none => none

/-- Cell z of a row. -/
def rowGet (l : List (SV A)) (n z : Nat) : Option (SV A) :=
  match rowA l with
  | some row =>
    if Atom.size row = n then
      match Atom.get row z with
      | some y => some (.a y)
      | none => none
    else none
  | none => none

/-- An element of an array; a byte of a text. -/
def indexV (P : Program) (t : TypeId) (xv iv : TV A) : Option (TV A × List Prop) :=
  match numOf iv with
  | some (lit, z) =>
    match P.underlying t, xv with
    | some (.array n e), .val true l =>
      match sizeT P e with
      | some sz =>
        if lit then
          match natOf z with
          | some k =>
            if k < n then
              match partV P e l (k * sz) with
              | some v => some (v, [])
              | none => none
            else none
          | none => none
        else
          match isAggB P e, rowGet l n z.toNat with
          | some false, some y => if sz = 1 then some (.val false [y], [0 ≤ z ∧ z < n]) else none
          | _, _ => none
      | none => none
    | some .string, .val false [.v (.string s)] =>
      if lit then
        match natOf z with
        | some k =>
          match nth s.data.toList k with
          | some b => some (.val false [.v (.int .u8 b.toNat)], [])
          | none => none
        | none => none
      else none
    | _, _ => none
  | none => none

/-- What lies at an address. -/
def loadV (c : Cfg A) (m : Mem A) (t : TypeId) (xv : TV A) : Option (TV A × List Prop) :=
  match xv with
  | .val false [.p i off] =>
    match nth m i with
    | some (some blk) =>
      match partV c.P t blk.cells off with
      | some v => some (v, [])
      | none => none
    | _ => none
  | .val false [.r i off n z] =>
    match nth m i with
    | some (some blk) =>
      match isAggB c.P t, sizeT c.P t, cut blk.cells off n with
      | some false, some 1, some l =>
        match rowGet l n z with
        | some y => some (.val false [y], [])
        | none => none
      | _, _, _ => none
    | _ => none
  | .val false [.q a f i] =>
    match isAggB c.P t, sizeT c.P t with
    | some true, some n => some (.val true (extCells f i n), [Reads c.old a f i n])
    | some false, some 1 => some (.val false [.a (f i)], [Reads c.old a f i 1])
    | _, _ => none
  | .val false [.ka f i k] =>
    match isAggB c.P t, sizeT c.P t with
    | some true, some n => if n ≤ k then some (.val true (extCells f i n), []) else none
    | some false, some 1 => if 1 ≤ k then some (.val false [.a (f i)], []) else none
    | _, _ => none
  | _ => none

/-- A bound of a slice of memory that is not ours. -/
def bndE (c : Cfg A) (st : St A) (y d : Nat) : Option Operand → Option (Nat × List Prop)
  | none => some (d, [])
  | some x =>
    match evO c st x with
    | some tv =>
      match numOf tv with
      | some (_, z) => some (z.toNat, [0 ≤ z ∧ z ≤ y])
      | none => none
    | none => none

def sliceE (c : Cfg A) (st : St A) (a : Option Addr) (f : Nat → A) (i len cap : Nat) (e : TypeId) (lo hi mx : Option Operand) : Option (TV A × List Prop) :=
  if mx.isSome && hi.isNone then none
  else
    match bndE c st cap cap mx, sizeT c.P e with
    | some (m, v1), some sz =>
      match bndE c st m len hi with
      | some (h, v2) =>
        match bndE c st h 0 lo with
        | some (l, v3) => some (.val false [.e a f (startN lo i l sz) (h - l) (m - l)], v3 ++ (v2 ++ v1))
        | none => none
      | none => none
    | _, _ => none

/-- The bounds of a part that lies within the first len elements. -/
def boundsH (c : Cfg A) (st : St A) (len : Nat) (lo hi mx : Option Operand) : Option (Nat × Nat × List Prop) :=
  if mx.isSome && hi.isNone then none
  else
    match bndE c st len len mx with
    | some (m, v1) =>
      match bndE c st m len hi with
      | some (h, v2) =>
        match bndE c st h 0 lo with
        | some (l, v3) => some (l, h, v3 ++ (v2 ++ v1))
        | none => none
      | none => none
    | none => none

/-- How long is it? -/
def lenV (P : Program) (t : TypeId) (xv : TV A) : Option (TV A) :=
  match P.underlying t, xv with
  | some (.slice _), .val false [.s _ _ n _] => some (.val false [.v (.int .i64 n)])
  | some (.slice _), .val false [.v (.slice none n _)] => some (.val false [.v (.int .i64 n)])
  | some (.slice _), .val false [.e _ _ _ n _] => some (.val false [.n .i64 n])
  | some (.slice _), .val false [.kn _ _ n _] => some (.val false [.n .i64 n])
  | some (.slice _), .val false [.gr _ _ _ _ n] => some (.val false [.n .i64 n])
  | some .string, .val false [.v (.string s)] => some (.val false [.v (.int .i64 s.size)])
  | _, _ => none

/-- A cell as an atom. -/
def litA : SV A → Option A
  | .a x => if Atom.size x = 1 then some x else none
  | .v (.int k z) =>
    match Atom.wrap (A := A) k z with
    | some x => if k.wrap z = z then some x else none
    | none => none
  | _ => none
def litsA : List (SV A) → Option (List A)
  | [] => some []
  | s :: l =>
    match litA s, litsA l with
    | some x, some r => some (x :: r)
    | _, _ => none

/-- An operation that yields a value, and leaves the memory as it is (but for a new slice, whose cells hold for good). -/
def opV (c : Cfg A) (st : St A) (op : Op) : Option (TV A × List Prop) :=
  match op with
  | .move x | .assign x =>
    match evO c st x with
    | some v => some (v, [])
    | none => none
  | .pick q x y =>
    match evO c st q with
    | some qv =>
      match boolOf qv with
      | some b =>
        match evO c st (if b then x else y) with
        | some v => some (v, [])
        | none => none
      | none => none
    | none => none
  | .fieldAddr t x f =>
    match evO c st x with
    | some xv =>
      match addrOf xv, c.P.underlying t with
      | some (i, off), some (.struct fs) =>
        match fs[f]? with
        | some fd =>
          match sizeT c.P fd.type with
          | some (_ + 1) => some (.val false [.p i (off + fd.offset)], [])
          | _ => none
        | none => none
      | _, _ => none
    | none => none
  | .field t x f =>
    match evO c st x, c.P.underlying t with
    | some (.val true l), some (.struct fs) =>
      match fs[f]? with
      | some fd =>
        match partV c.P fd.type l fd.offset with
        | some v => some (v, [])
        | none => none
      | none => none
    | _, _ => none
  | .indexAddr t x ix =>
    match evO c st x, evO c st ix with
    | some xv, some iv => indexAddrV c.P t xv iv
    | _, _ => none
  | .index t x ix =>
    match evO c st x, evO c st ix with
    | some xv, some iv => indexV c.P t xv iv
    | _, _ => none
  | .load t x =>
    match evO c st x with
    | some xv => loadV c st.m t xv
    | none => none
  | .extract x i =>
    match evO c st x with
    | some (.tup l) =>
      match nth l i with
      | some (g, cs) => some (.val g cs, [])
      | none => none
    | _ => none
  | .binOp op t x y _ =>
    match evO c st x, evO c st y with
    | some xv, some yv =>
      if isDiv op then divV op xv yv
      else
        match binV c.P op t xv yv with
        | some v => some (v, [])
        | none => none
    | _, _ => none
  | .unOp op _ x =>
    match evO c st x with
    | some xv =>
      match unV op xv with
      | some v => some (v, [])
      | none => none
    | none => none
  | .convert src dst x =>
    match evO c st x, c.P.underlying src, c.P.underlying dst with
    | some (.val false [s]), some _, some (.int k) =>
      match intOfSV s with
      | some (l, _, a) => some (.val false [mkW l k a], [])
      | none => none
    | _, _, _ => none
  | .build t parts =>
    match zeroT c.P t, c.P.underlying t with
    | some cells, some (.struct fs) =>
      match placesOf c.P fs.toList with
      | some ps =>
        match fillV (fun i => nth ps i) c st cells parts.toList with
        | some l => some (.val true l, [])
        | none => none
      | none => none
    | some cells, some (.array _ e) =>
      match sizeT c.P e with
      | some sz =>
        match fillV (fun i => some (i * sz, sz)) c st cells parts.toList with
        | some l => some (.val true l, [])
        | none => none
      | none => none
    | _, _ => none
  | .slice t x lo hi mx =>
    match evO c st x, c.P.underlying t with
    | some (.val false [.p i off]), some (.array n e) => sliceV c st i off n n e lo hi mx
    | some (.val false [.s i off n cp]), some (.slice e) => sliceV c st i off n cp e lo hi mx
    | some (.val false [.e a f i n cp]), some (.slice e) => sliceE c st a f i n cp e lo hi mx
    | some (.val false [.kn f i n sz']), some (.slice e) =>
      match sizeT c.P e, boundsH c st n lo hi mx with
      | some sz, some (l, h, vc) => if sz = sz' then some (.val false [.kn f (startN lo i l sz) (h - l) sz], vc) else none
      | _, _ => none
    | _, _ => none
  | .makeFunc (.func g) first captured =>
    match evL c st captured.toList with
    | some l =>
      match capsOf l with
      | some cs => if first.isEmpty then some (.val false [.f g cs], []) else none
      | none => none
    | none => none
  | .call { callee := .value (.func g), args, argTypes := _ } =>
    match evL c st args.toList with
    | some l =>
      match c.call g l st.m with
      | some (v, none, vc) => some (v, vc)
      | _ => none
    | none => none
  | .call { callee := .builtin .len, args, argTypes } =>
    match evL c st args.toList, argTypes[0]? with
    | some [xv], some t =>
      match lenV c.P t xv with
      | some v => some (v, [])
      | none => none
    | _, _ => none
  | .call { callee := .builtin .max, args, argTypes := _ } =>
    match evL c st args.toList with
    | some l =>
      match extV true l with
      | some v => some (v, [])
      | none => none
    | none => none
  | .call { callee := .builtin .min, args, argTypes := _ } =>
    match evL c st args.toList with
    | some l =>
      match extV false l with
      | some v => some (v, [])
      | none => none
    | none => none
  | .buildSlice t len parts =>
    match c.P.underlying t with
    | some (.slice e) =>
      match sizeT c.P e, zeroT (A := A) c.P e with
      | some 1, some z =>
        if len * (0 + 1) ≤ 4096 then
          if z.length = 0 + 1 then
            match fillV (fun i => some (i * (0 + 1), 0 + 1)) c st (List.replicate len z).flatten parts.toList with
            | some cells =>
              match litsA cells with
              | some (x :: l) => if (x :: l).length = len then some (.val false [.kn (fun j => ((x :: l)[j]?).getD x) 0 len 1], []) else none
              | _ => none
            | none => none
          else none
        else none
      | _, _ => none
    | _ => none
  | _ => none

def putT (st : St A) (d : Option Tmp) (v : TV A) : St A :=
  match d with
  | some d => { st with t := setN st.t d v }
  | none => st

/-- Memory with a value written. -/
def storeV (P : Program) (m : Mem A) (t : TypeId) (xv yv : TV A) : Option (Mem A) :=
  match xv, cellsT yv with
  | .val false [.p i off], some l =>
    match nth m i with
    | some (some blk) =>
      match blk.ro, over blk.cells off l with
      | false, some cells => if sizeT P t = some (lsize l) then some (setN m i (some ⟨cells, blk.ty, false⟩)) else none
      | _, _ => none
    | _ => none
  | .val false [.r i off n z], some [s] =>
    match nth m i with
    | some (some blk) =>
      match blk.ro, cut blk.cells off n, atomOf s, sizeT P t with
      | false, some l, some y, some 1 =>
        match rowA l with
        | some row =>
          if Atom.size row = n then
            match Atom.set row z y with
            | some row' =>
              match over blk.cells off [.a row'] with
              | some cells => some (setN m i (some ⟨cells, blk.ty, false⟩))
              | none => none
            | none => none
          else none
        | none => none
      | _, _, _, _ => none
    | _ => none
  | _, _ => none

/-- What a function has captured, as arguments. -/
def capsTV : List (Nat × Nat) → List (TV A)
  | [] => []
  | (i, off) :: r => .val false [.p i off] :: capsTV r

/-- A call. -/
def callX (c : Cfg A) (st : St A) (d : Option Tmp) (g : FuncId) (l : List (TV A)) : Option (St A) :=
  match c.call g l st.m with
  | some (v, none, vc) => some (putT { st with vc := (decT c st.rd d v).2 ++ (vc ++ st.vc) } d (decT c st.rd d v).1)
  | some (v, some m', vc) => some (putT { st with m := m', vc := (decT c st.rd d v).2 ++ (vc ++ st.vc) } d (decT c st.rd d v).1)
  | none => none

/-- One operation. -/
def exec1 (c : Cfg A) (st : St A) (o : Oper) : Option (St A) :=
  match o.op with
  | .alloc t =>
    match zeroT c.P t with
    | some cells => some (putT { st with m := st.m ++ [some ⟨cells, t, false⟩] } o.dst (.val false [.p st.m.length 0]))
    | none => none
  | .box t x =>
    match evO c st x with
    | some xv =>
      match cellsT xv with
      | some cells => some (putT { st with m := st.m ++ [some ⟨cells, t, false⟩] } o.dst (.val false [.p st.m.length 0]))
      | none => none
    | none => none
  | .buildSlice t len parts =>
    match c.P.underlying t with
    | some (.slice e) =>
      match sizeT c.P e, zeroT (A := A) c.P e with
      | some (sz + 1), some z =>
        if len * (sz + 1) ≤ 4096 then
          if z.length = sz + 1 then
            match fillV (fun i => some (i * (sz + 1), sz + 1)) c st (List.replicate len z).flatten parts.toList with
            | some cells => some (putT { st with m := st.m ++ [some ⟨cells, e, false⟩] } o.dst (.val false [.s st.m.length 0 len len]))
            | none => none
          else none
        else none
      | _, _ => none
    | _ => none
  | .store t x y =>
    match evO c st x, evO c st y with
    | some xv, some yv =>
      match storeV c.P st.m t xv yv with
      | some m' => some (putT { st with m := m' } o.dst undefT)
      | none => none
    | _, _ => none
  | .call { callee := .value (.func g), args, argTypes := _ } =>
    match evL c st args.toList with
    | some l => callX c st o.dst g l
    | none => none
  | .call { callee := .value (.tmp x), args, argTypes := _ } =>
    match nth st.t x, evL c st args.toList with
    | some (.val false [.y i]), some l =>
      match c.yf i l st.rd st.m st.pd with
      | some (b, m', pd', vc) => some (putT { st with m := m', pd := pd', vc := vc ++ st.vc } o.dst (.val false [.v (.bool b)]))
      | none => none
    | some (.val false [.f g cap]), some l => callX c st o.dst g (l ++ capsTV cap)
    | _, _ => none
  | op =>
    match opV c st op with
    | some (v, vc) => some (putT { st with vc := (decT c st.rd o.dst v).2 ++ (vc ++ st.vc) } o.dst (decT c st.rd o.dst v).1)
    | none => none

/-- Is an operation carried out? -/
def wants (ops : List Oper) (st : St A) (o : Oper) : Option Bool :=
  match o.guard with
  | none => some true
  | some (j, want) =>
    match nth ops j with
    | some oj =>
      match oj.dst with
      | some d =>
        match nth st.t d with
        | some (.tup []) => some false
        | some tv =>
          match boolOf tv with
          | some b => some (b == want)
          | none => none
        | none => none
      | none => none
    | none => none

def execOps (c : Cfg A) (ops : List Oper) : List Oper → St A → Option (St A)
  | [], st => some st
  | o :: rest, st =>
    match wants ops st o with
    | some true =>
      match exec1 c st o with
      | some st' => execOps c ops rest st'
      | none => none
    | some false => execOps c ops rest (putT st o.dst undefT)
    | none => none

end
end Go.Sh

/- What a shadow stands for, and that the operations on shadows are those on values. -/
namespace Go.Sh
open Go.RowKit

/-- Where the blocks lie; which blocks hold the calls that loops over functions have put off (none); which cells hold for good; where the growing slices lie at each of their turns (no block: nil), and for how many elements there is room. -/
structure Adr where
  pl : Nat → Option Nat
  kp : Nat → Prop
  kn : Addr → Value → Prop
  gs : Nat → Nat → Option (Option Nat × Nat)

/-- Nothing is known. -/
def Adr.nil : Adr := ⟨fun _ => none, fun _ => False, fun _ _ => False, fun _ _ => none⟩
/-- More cells hold for good. -/
def Adr.know (β : Adr) (K : Addr → Value → Prop) : Adr := ⟨β.pl, β.kp, fun a v => β.kn a v ∨ K a v, β.gs⟩

instance : CoeFun Adr (fun _ => Nat → Option Nat) := ⟨Adr.pl⟩

structure Adr.le (β β' : Adr) : Prop where
  pl : ∀ i b, β i = some b → β' i = some b
  kp : ∀ k, β.kp k → β'.kp k
  kn : ∀ a v, β.kn a v → β'.kn a v
  gs : ∀ i v x, β.gs i v = some x → β'.gs i v = some x
theorem Adr.le_refl (β : Adr) : Adr.le β β := ⟨fun _ _ h => h, fun _ h => h, fun _ _ h => h, fun _ _ _ h => h⟩
theorem Adr.le_trans {β β' β'' : Adr} (h : Adr.le β β') (h' : Adr.le β' β'') : Adr.le β β'' :=
  ⟨fun i b e => h'.pl i b (h.pl i b e), fun k e => h'.kp k (h.kp k e), fun a v e => h'.kn a v (h.kn a v e), fun i v x e => h'.gs i v x (h.gs i v x e)⟩
theorem Adr.le_know (β : Adr) (K : Addr → Value → Prop) : Adr.le β (β.know K) := ⟨fun _ _ h => h, fun _ h => h, fun _ _ h => .inl h, fun _ _ _ h => h⟩

section
variable {A : Type} [Atom A]

def capsIs (β : Adr) : List (Nat × Nat) → List Value → Prop
  | [], vs => vs = []
  | (i, off) :: l, vs => ∃ b r, β i = some b ∧ capsIs β l r ∧ vs = .pointer (some ⟨b, off, none⟩) :: r

def extIs : Option Addr → Nat → Nat → Nat → List Value → Prop
  | none, _, n, c, vs => n = 0 ∧ c = 0 ∧ vs = [.slice none 0 0]
  | some a, i, n, c, vs => ∃ p, (0 < c → p = a.add i) ∧ n ≤ c ∧ vs = [.slice (some p) n c]

/-- k cells from p on hold for good. -/
def Known (β : Adr) (p : Addr) (f : Nat → A) (i k : Nat) : Prop := ∀ j, j < k → ∃ v, β.kn (p.add j) v ∧ Atom.cells (f (i + j)) = [v]

def knownIs (β : Adr) (f : Nat → A) (i n sz : Nat) (vs : List Value) : Prop :=
  (n = 0 ∧ vs = [.slice none 0 0]) ∨ ∃ p c, vs = [.slice (some p) n c] ∧ n ≤ c ∧ Known β p f i (n * sz)

def growsIs (off d n : Nat) (vs : List Value) : Option (Option Nat × Nat) → Prop
  | some (none, _) => n = 0 ∧ vs = [.slice none 0 0]
  | some (some b, cap) => ∃ p, (d < cap → p = ⟨b, off, none⟩) ∧ d + n ≤ cap ∧ vs = [.slice (some p) n (cap - d)]
  | none => False

def growsAt (off : Nat) (vs : List Value) : Option (Option Nat × Nat) → Prop
  | some (some b, _) => vs = [.pointer (some ⟨b, off, none⟩)]
  | _ => False

def SV.Is (β : Adr) : SV A → List Value → Prop
  | .v x, vs => vs = [x] ∧ x.oneCell' = true
  | .n k x, vs => vs = [.int k x]
  | .b x, vs => vs = [.bool x]
  | .p i off, vs => ∃ b, β i = some b ∧ vs = [.pointer (some ⟨b, off, none⟩)]
  | .s i off len cap, vs => ∃ b, β i = some b ∧ vs = [.slice (some ⟨b, off, none⟩) len cap]
  | .f g cap, vs => ∃ cs, capsIs β cap cs ∧ vs = [.func (.func g) #[] cs.toArray]
  | .a x, vs => vs = Atom.cells x
  | .r i off len z, vs => z < len ∧ ∃ b, β i = some b ∧ vs = [.pointer (some ⟨b, off + z, none⟩)]
  | .e ad _ i ln cp, vs => extIs ad i ln cp vs
  | .q ad _ i, vs => ∃ b, ad = some b ∧ vs = [.pointer (some (b.add i))]
  | .y i, vs => ∃ b, β i = some b ∧ vs = [.func (.yield b) #[] #[]]
  | .w k x, vs => vs = [.int k (k.wrap x)]
  | .kn fc i ln sz, vs => knownIs β fc i ln sz vs
  | .ka fc i ln, vs => ∃ ad, vs = [.pointer (some ad)] ∧ Known β ad fc i ln
  | .gr i tu off de ln, vs => growsIs off de ln vs (β.gs i tu)
  | .ga i tu off, vs => growsAt off vs (β.gs i tu)
  | .mk _ _, _ => False
  | .tx l, vs => vs = [.string ⟨l.toArray⟩]

def LIs (β : Adr) : List (SV A) → List Value → Prop
  | [], vs => vs = []
  | s :: l, vs => ∃ x y, SV.Is β s x ∧ LIs β l y ∧ vs = x ++ y

def VIs (β : Adr) (g : Bool) (l : List (SV A)) (v : Value) : Prop :=
  match g with
  | true => ∃ vs, LIs β l vs ∧ v = .agg vs.toArray
  | false => LIs β l [v]

def PsIs (β : Adr) : List (Bool × List (SV A)) → List Value → Prop
  | [], vs => vs = []
  | x :: l, vs => ∃ v r, VIs β x.1 x.2 v ∧ PsIs β l r ∧ vs = v :: r

def TV.Is (β : Adr) : TV A → Value → Prop
  | .val g l, v => VIs β g l v
  | .tup l, v => ∃ vs, PsIs β l vs ∧ v = .tuple vs.toArray
  | .any, _ => True

def TsIs (β : Adr) : List (TV A) → List Value → Prop
  | [], vs => vs = []
  | x :: l, vs => ∃ v r, TV.Is β x v ∧ TsIs β l r ∧ vs = v :: r

theorem capsIs.mono {β β' : Adr} (h : Adr.le β β') : ∀ {l vs}, capsIs β l vs → capsIs β' l vs
  | [], _, e => e
  | (_, _) :: _, _, ⟨b, r, h1, h2, e⟩ => ⟨b, r, h.pl _ _ h1, capsIs.mono h h2, e⟩

theorem Known.mono {β β' : Adr} (h : Adr.le β β') {p : Addr} {f : Nat → A} {i k : Nat} (hk : Known β p f i k) : Known β' p f i k := fun j hj => by
  obtain ⟨v, h1, h2⟩ := hk j hj
  exact ⟨v, h.kn _ _ h1, h2⟩

theorem growsIs.some {off d n : Nat} {vs : List Value} {x : Option (Option Nat × Nat)} (h : growsIs off d n vs x) : ∃ y, x = some y := by
  cases x with
  | none => exact h.elim
  | some y => exact ⟨y, rfl⟩
theorem growsAt.some {off : Nat} {vs : List Value} {x : Option (Option Nat × Nat)} (h : growsAt off vs x) : ∃ b c, x = some (some b, c) ∧ vs = [.pointer (some ⟨b, off, none⟩)] := by
  cases x with
  | none => exact h.elim
  | some y =>
    obtain ⟨b, c⟩ := y
    cases b with
    | none => exact h.elim
    | some b => exact ⟨b, c, rfl, h⟩
theorem growsIs.single {off d n : Nat} {vs : List Value} {x : Option (Option Nat × Nat)} (h : growsIs off d n vs x) : ∃ p c, vs = [.slice p n c] := by
  obtain ⟨⟨b, cap⟩, rfl⟩ := h.some
  cases b with
  | none => obtain ⟨rfl, h⟩ := h; exact ⟨_, _, h⟩
  | some b => obtain ⟨p, _, _, h⟩ := h; exact ⟨_, _, h⟩
theorem knownIs.single {β : Adr} {f : Nat → A} {i n sz : Nat} {vs : List Value} (h : knownIs β f i n sz vs) : ∃ p c, vs = [.slice p n c] := by
  rcases h with ⟨rfl, h⟩ | ⟨p, c, h, _⟩
  · exact ⟨_, _, h⟩
  · exact ⟨_, _, h⟩

theorem SV.Is.mono {β β' : Adr} (h : Adr.le β β') {s : SV A} {vs : List Value} (hs : s.Is β vs) : s.Is β' vs := by
  cases s with
  | p i off => obtain ⟨b, h1, h2⟩ := hs; exact ⟨b, h.pl _ _ h1, h2⟩
  | r i off len z => obtain ⟨h0, b, h1, h2⟩ := hs; exact ⟨h0, b, h.pl _ _ h1, h2⟩
  | s i off len cap => obtain ⟨b, h1, h2⟩ := hs; exact ⟨b, h.pl _ _ h1, h2⟩
  | f g cap => obtain ⟨cs, h1, h2⟩ := hs; exact ⟨cs, h1.mono h, h2⟩
  | y i => obtain ⟨b, h1, h2⟩ := hs; exact ⟨b, h.pl _ _ h1, h2⟩
  | kn f i n sz =>
    rcases hs with h1 | ⟨p, c, h1, h2, h3⟩
    · exact .inl h1
    · exact .inr ⟨p, c, h1, h2, h3.mono h⟩
  | ka f i k => obtain ⟨p, h1, h2⟩ := hs; exact ⟨p, h1, h2.mono h⟩
  | gr i v off d n =>
    have hs : growsIs off d n vs (β.gs i v) := hs
    obtain ⟨y, hy⟩ := hs.some
    show growsIs off d n vs (β'.gs i v)
    rw [h.gs _ _ _ hy]
    rw [hy] at hs
    exact hs
  | ga i v off =>
    have hs : growsAt off vs (β.gs i v) := hs
    obtain ⟨b, c, hy, h2⟩ := hs.some
    show growsAt off vs (β'.gs i v)
    rw [h.gs _ _ _ hy]
    exact h2
  | _ => exact hs

theorem LIs.mono {β β' : Adr} (h : Adr.le β β') : ∀ {l : List (SV A)} {vs}, LIs β l vs → LIs β' l vs
  | [], _, e => e
  | _ :: _, _, ⟨x, y, h1, h2, e⟩ => ⟨x, y, h1.mono h, LIs.mono h h2, e⟩

theorem VIs.mono {β β' : Adr} (h : Adr.le β β') {g : Bool} {l : List (SV A)} {v : Value} (hv : VIs β g l v) : VIs β' g l v := by
  cases g with
  | true => obtain ⟨vs, h1, h2⟩ := hv; exact ⟨vs, h1.mono h, h2⟩
  | false => exact LIs.mono h hv

theorem PsIs.mono {β β' : Adr} (h : Adr.le β β') : ∀ {l : List (Bool × List (SV A))} {vs}, PsIs β l vs → PsIs β' l vs
  | [], _, e => e
  | _ :: _, _, ⟨v, r, h1, h2, e⟩ => ⟨v, r, h1.mono h, PsIs.mono h h2, e⟩

theorem TV.Is.mono {β β' : Adr} (h : Adr.le β β') {t : TV A} {v : Value} (ht : t.Is β v) : t.Is β' v := by
  cases t with
  | val g l => exact VIs.mono h ht
  | tup l => obtain ⟨vs, h1, h2⟩ := ht; exact ⟨vs, h1.mono h, h2⟩
  | any => exact ht

theorem TsIs.mono {β β' : Adr} (h : Adr.le β β') : ∀ {l : List (TV A)} {vs}, TsIs β l vs → TsIs β' l vs
  | [], _, e => e
  | _ :: _, _, ⟨v, r, h1, h2, e⟩ => ⟨v, r, h1.mono h, TsIs.mono h h2, e⟩

theorem SV.Is.extern {β : Adr} {a : Option Addr} {f : Nat → A} {i n c : Nat} {vs : List Value} (h : (SV.e a f i n c).Is β vs) : ∃ p, vs = [.slice p n c] := by
  cases a with
  | none => obtain ⟨rfl, rfl, h⟩ := h; exact ⟨none, h⟩
  | some a => obtain ⟨p, _, _, h⟩ := h; exact ⟨some p, h⟩

theorem SV.Is.len {β : Adr} {s : SV A} {vs : List Value} (h : s.Is β vs) : vs.length = s.size := by
  cases s with
  | v x => obtain ⟨rfl, _⟩ := h; rfl
  | n k x => obtain rfl := h; rfl
  | b x => obtain rfl := h; rfl
  | p i off => obtain ⟨b, _, rfl⟩ := h; rfl
  | s i off len cap => obtain ⟨b, _, rfl⟩ := h; rfl
  | f g cap => obtain ⟨cs, _, rfl⟩ := h; rfl
  | a x => obtain rfl := h; exact Atom.len x
  | r i off len z => obtain ⟨_, b, _, rfl⟩ := h; rfl
  | e a f i n c => obtain ⟨p, rfl⟩ := h.extern; rfl
  | q a f i => obtain ⟨b, _, rfl⟩ := h; rfl
  | y i => obtain ⟨b, _, rfl⟩ := h; rfl
  | w k x => obtain rfl := h; rfl
  | kn f i n sz => obtain ⟨_, _, rfl⟩ := (h : knownIs β f i n sz vs).single; rfl
  | ka f i k => obtain ⟨p, rfl, _⟩ := h; rfl
  | gr i v off d n => obtain ⟨_, _, rfl⟩ := (h : growsIs off d n vs (β.gs i v)).single; rfl
  | ga i v off => obtain ⟨_, _, _, rfl⟩ := (h : growsAt off vs (β.gs i v)).some; rfl
  | mk v n => exact h.elim
  | tx l => obtain rfl := h; rfl

theorem SV.Is.one {β : Adr} {s : SV A} {vs : List Value} (h : s.Is β vs) : ∀ v ∈ vs, v.oneCell' = true := by
  intro v hv
  cases s with
  | v x => obtain ⟨rfl, h1⟩ := h; simp at hv; subst hv; exact h1
  | n k x => obtain rfl := h; simp at hv; subst hv; rfl
  | b x => obtain rfl := h; simp at hv; subst hv; rfl
  | p i off => obtain ⟨b, _, rfl⟩ := h; simp at hv; subst hv; rfl
  | s i off len cap => obtain ⟨b, _, rfl⟩ := h; simp at hv; subst hv; rfl
  | f g cap => obtain ⟨cs, _, rfl⟩ := h; simp at hv; subst hv; rfl
  | a x => obtain rfl := h; exact Atom.one x v hv
  | r i off len z => obtain ⟨_, b, _, rfl⟩ := h; simp at hv; subst hv; rfl
  | e a f i n c => obtain ⟨p, rfl⟩ := h.extern; simp at hv; subst hv; rfl
  | q a f i => obtain ⟨b, _, rfl⟩ := h; simp at hv; subst hv; rfl
  | y i => obtain ⟨b, _, rfl⟩ := h; simp at hv; subst hv; rfl
  | w k x => obtain rfl := h; simp at hv; subst hv; rfl
  | kn f i n sz => obtain ⟨_, _, rfl⟩ := (h : knownIs β f i n sz vs).single; simp at hv; subst hv; rfl
  | ka f i k => obtain ⟨p, rfl, _⟩ := h; simp at hv; subst hv; rfl
  | gr i w off d n => obtain ⟨_, _, rfl⟩ := (h : growsIs off d n vs (β.gs i w)).single; simp at hv; subst hv; rfl
  | ga i w off => obtain ⟨_, _, _, rfl⟩ := (h : growsAt off vs (β.gs i w)).some; simp at hv; subst hv; rfl
  | mk w n => exact h.elim
  | tx l => obtain rfl := h; simp at hv; subst hv; rfl

theorem LIs.len {β : Adr} : ∀ {l : List (SV A)} {vs}, LIs β l vs → vs.length = lsize l
  | [], _, e => by subst e; rfl
  | _ :: _, _, ⟨x, y, h1, h2, e⟩ => by subst e; simp [lsize, h1.len, LIs.len h2]

theorem LIs.one {β : Adr} : ∀ {l : List (SV A)} {vs}, LIs β l vs → ∀ v ∈ vs, v.oneCell' = true
  | [], _, e => by subst e; intro v hv; cases hv
  | _ :: _, _, ⟨x, y, h1, h2, e⟩ => by
    subst e
    intro v hv
    rcases List.mem_append.1 hv with h | h
    · exact h1.one v h
    · exact LIs.one h2 v h

theorem LIs.append {β : Adr} : ∀ {l r : List (SV A)} {x y}, LIs β l x → LIs β r y → LIs β (l ++ r) (x ++ y)
  | [], _, _, _, e, h => by subst e; exact h
  | _ :: _, _, _, _, ⟨x, y, h1, h2, e⟩, h => by
    subst e
    exact ⟨x, _, h1, LIs.append h2 h, by rw [List.append_assoc]⟩

theorem LIs.vs {β : Adr} : ∀ {vs : List Value}, (∀ v ∈ vs, v.oneCell' = true) → LIs (A := A) β (vs.map .v) vs
  | [], _ => rfl
  | v :: vs, h => ⟨[v], vs, ⟨rfl, h v (by simp)⟩, LIs.vs (fun x hx => h x (by simp [hx])), rfl⟩

theorem LIs.atoms {β : Adr} : ∀ l : List A, LIs β (l.map SV.a) (l.map Atom.cells).flatten
  | [] => rfl
  | x :: l => ⟨Atom.cells x, _, rfl, LIs.atoms l, rfl⟩

theorem explode_is {β : Adr} {s : SV A} {vs : List Value} (h : s.Is β vs) : LIs β (explode s) vs := by
  cases s with
  | a x =>
    obtain rfl := h
    simp only [explode]
    split
    · rename_i l hl
      rw [(Atom.parts_ok hl).1]
      exact LIs.atoms l
    · exact LIs.vs (Atom.one x)
  | _ => exact ⟨vs, [], h, rfl, by simp⟩

theorem flat_is {β : Adr} : ∀ {l : List (SV A)} {vs : List Value}, LIs β l vs → LIs β (flat l) vs
  | [], _, h => h
  | s :: l, vs, ⟨x, y, h1, h2, e⟩ => by
    have ih := flat_is h2
    subst e
    cases s with
    | a z =>
      obtain rfl := h1
      simp only [flat]
      split
      · rename_i r hr
        rw [(Atom.parts_ok hr).1]
        exact (LIs.atoms r).append ih
      · exact ⟨_, y, rfl, ih, rfl⟩
    | _ => exact ⟨x, y, h1, ih, rfl⟩

theorem atomOf_is {β : Adr} {s : SV A} {vs : List Value} {x : A} (h : s.Is β vs) (e : atomOf s = some x) : vs = Atom.cells x := by
  unfold atomOf at e
  split at e
  · simp at e; subst e; exact h
  · rename_i k z
    split at e
    · rename_i hw
      have := Atom.wrap_ok e
      rw [this, hw]
      exact h.1
    · cases e
  · cases e

theorem atomsOf_is {β : Adr} : ∀ {l : List (SV A)} {vs : List Value} {r : List A}, LIs β l vs → atomsOf l = some r → vs = (r.map Atom.cells).flatten
  | [], vs, r, h, e => by simp [atomsOf] at e; subst e; exact h
  | s :: l, vs, r, ⟨x, y, h1, h2, e'⟩, e => by
    simp only [atomsOf] at e
    split at e
    · rename_i a r' ha hr
      simp at e; subst e; subst e'
      rw [atomOf_is h1 ha, atomsOf_is h2 hr]
      rfl
    · cases e

theorem rowA_is {β : Adr} {l : List (SV A)} {vs : List Value} {x : A} (h : LIs β l vs) (e : rowA l = some x) : vs = Atom.cells x := by
  unfold rowA at e
  split at e
  · simp at e; subst e
    obtain ⟨u, y, h1, h2, rfl⟩ := h
    obtain rfl : y = [] := h2
    obtain rfl : u = _ := h1
    simp
  · split at e
    · rename_i r hr
      rw [Atom.pack_ok e]
      exact atomsOf_is h hr
    · cases e

theorem LIs.take_drop {β : Adr} : ∀ {l : List (SV A)} {vs} (n : Nat), (∀ s ∈ l, s.size = 1) → LIs β l vs → LIs β (l.take n) (vs.take n) ∧ LIs β (l.drop n) (vs.drop n)
  | [], _, n, _, e => by subst e; simp [LIs]
  | _ :: _, _, 0, _, h => by simp only [List.take_zero, List.drop_zero]; exact ⟨rfl, h⟩
  | s :: l, _, n + 1, hs, ⟨x, y, h1, h2, e⟩ => by
    subst e
    have hx : x.length = 1 := by rw [h1.len]; exact hs s (by simp)
    match x, hx with
    | [v], _ =>
      have ih := LIs.take_drop n (fun s' hs' => hs s' (by simp [hs'])) h2
      simp only [List.cons_append, List.nil_append, List.take_succ_cons, List.drop_succ_cons]
      exact ⟨⟨[v], _, h1, ih.1, rfl⟩, ih.2⟩

theorem splitC_is {β : Adr} : ∀ {l : List (SV A)} {vs} {n : Nat} {x y}, LIs β l vs → splitC l n = some (x, y) →
    LIs β x (vs.take n) ∧ LIs β y (vs.drop n) ∧ n ≤ vs.length
  | l, vs, 0, x, y, h, e => by
    have : x = [] ∧ y = l := by cases l <;> (simp [splitC] at e; obtain ⟨rfl, rfl⟩ := e; exact ⟨rfl, rfl⟩)
    obtain ⟨rfl, rfl⟩ := this
    simp only [List.take_zero, List.drop_zero]
    exact ⟨rfl, h, Nat.zero_le _⟩
  | [], _, _ + 1, _, _, _, e => by simp [splitC] at e
  | s :: l, _, n + 1, x, y, ⟨u, w, h1, h2, hv⟩, e => by
    subst hv
    unfold splitC at e
    have hu := h1.len
    split at e
    · rename_i hle
      split at e
      · rename_i x' y' he
        simp at e
        obtain ⟨rfl, rfl⟩ := e
        have ih := splitC_is h2 he
        rw [List.take_append, List.drop_append]
        have e1 : u.take (n + 1) = u := List.take_of_length_le (by omega)
        have e2 : u.drop (n + 1) = [] := List.drop_of_length_le (by omega)
        rw [e1, e2, hu]
        refine ⟨⟨u, _, h1, ih.1, rfl⟩, by simpa using ih.2.1, ?_⟩
        simp; omega
      · cases e
    · rename_i hlt
      simp at e
      obtain ⟨rfl, rfl⟩ := e
      have hex := explode_is h1
      have hone : ∀ s' ∈ explode s, s'.size = 1 := by
        intro s' hs'
        cases s with
        | a x =>
          simp only [explode] at hs'
          split at hs'
          · rename_i r hr
            obtain ⟨v, hv, rfl⟩ := List.mem_map.1 hs'
            exact (Atom.parts_ok hr).2 v hv
          · obtain ⟨v, _, rfl⟩ := List.mem_map.1 hs'
            rfl
        | _ => simp only [explode, List.mem_singleton] at hs'; subst hs'; rfl
      have htd := LIs.take_drop (n + 1) hone hex
      rw [List.take_append, List.drop_append]
      have hz : n + 1 - u.length = 0 := by omega
      rw [hz]
      simp only [List.take_zero, List.append_nil, List.drop_zero]
      refine ⟨htd.1, htd.2.append h2, ?_⟩
      simp; omega

theorem cut_is {β : Adr} {l x : List (SV A)} {vs : List Value} {off n : Nat} (h : LIs β l vs) (e : cut l off n = some x) :
    LIs β x ((vs.drop off).take n) ∧ off + n ≤ vs.length := by
  unfold cut at e
  split at e
  · rename_i u r hr
    split at e
    · rename_i x' y hx
      simp at e
      subst e
      obtain ⟨_, h2, h3⟩ := splitC_is h hr
      obtain ⟨h4, _, h5⟩ := splitC_is h2 hx
      refine ⟨h4, ?_⟩
      simp at h5
      omega
    · cases e
  · cases e

theorem over_is {β : Adr} {l x y : List (SV A)} {vs us : List Value} {off : Nat} (h : LIs β l vs) (hx : LIs β x us) (e : over l off x = some y) :
    LIs β y (vs.take off ++ us ++ vs.drop (off + us.length)) ∧ off + us.length ≤ vs.length := by
  unfold over at e
  split at e
  · rename_i u r hr
    split at e
    · rename_i x' r' hx'
      simp at e
      subst e
      obtain ⟨h1, h2, h3⟩ := splitC_is h hr
      obtain ⟨_, h4, h5⟩ := splitC_is h2 hx'
      rw [← hx.len] at h4 h5
      rw [List.drop_drop] at h4
      refine ⟨?_, ?_⟩
      · rw [List.append_assoc]
        exact h1.append (hx.append h4)
      · simp at h5
        omega
    · cases e
  · cases e

theorem nth_eq {α : Type} : ∀ (l : List α) (i : Nat), nth l i = l[i]?
  | [], _ => by simp [nth]
  | _ :: _, 0 => by simp [nth]
  | _ :: l, n + 1 => by simp [nth, nth_eq l n]

theorem setN_eq {α : Type} : ∀ (l : List α) (i : Nat) (y : α), setN l i y = l.set i y
  | [], _, _ => by simp [setN]
  | _ :: _, 0, _ => by simp [setN]
  | _ :: l, n + 1, y => by simp [setN, setN_eq l n]

theorem TsIs.nth {β : Adr} : ∀ {l : List (TV A)} {vs} {i : Nat} {t}, TsIs β l vs → Sh.nth l i = some t → ∃ v, vs[i]? = some v ∧ t.Is β v
  | [], _, _, _, _, h => by simp [Sh.nth] at h
  | _ :: _, _, 0, t, ⟨v, r, h1, _, e⟩, h => by
    subst e
    simp [Sh.nth] at h
    subst h
    exact ⟨v, by simp, h1⟩
  | _ :: l, _, n + 1, t, ⟨v, r, _, h2, e⟩, h => by
    subst e
    simp only [Sh.nth] at h
    obtain ⟨u, hu, ht⟩ := TsIs.nth h2 h
    exact ⟨u, by simpa using hu, ht⟩

theorem TsIs.set {β : Adr} : ∀ {l : List (TV A)} {vs} {i : Nat} {t v}, TsIs β l vs → t.Is β v → TsIs β (setN l i t) (vs.set i v)
  | [], _, _, _, _, e, _ => by subst e; simp [setN, TsIs]
  | _ :: _, _, 0, t, v, ⟨u, r, _, h2, e⟩, h => by subst e; exact ⟨v, r, h, h2, by simp⟩
  | _ :: l, _, n + 1, t, v, ⟨u, r, h1, h2, e⟩, h => by subst e; exact ⟨u, _, h1, TsIs.set h2 h, by simp⟩

theorem PsIs.nth {β : Adr} : ∀ {l : List (Bool × List (SV A))} {vs} {i : Nat} {t}, PsIs β l vs → Sh.nth l i = some t → ∃ v, vs[i]? = some v ∧ VIs β t.1 t.2 v
  | [], _, _, _, _, h => by simp [Sh.nth] at h
  | _ :: _, _, 0, t, ⟨v, r, h1, _, e⟩, h => by
    subst e
    simp [Sh.nth] at h
    subst h
    exact ⟨v, by simp, h1⟩
  | _ :: l, _, n + 1, t, ⟨v, r, _, h2, e⟩, h => by
    subst e
    simp only [Sh.nth] at h
    obtain ⟨u, hu, ht⟩ := PsIs.nth h2 h
    exact ⟨u, by simpa using hu, ht⟩

/-- W' is W with new blocks, and with X's blocks written. -/
structure Ext (X : Nat → Prop) (W W' : World) : Prop where
  os : W'.os = W.os
  tape : W'.tape = W.tape
  output : W'.output = W.output
  size : W.heap.size ≤ W'.heap.size
  block : ∀ k, k < W.heap.size → ¬ X k → W'.heap[k]? = W.heap[k]?

abbrev Keeps (W W' : World) : Prop := Ext (fun _ => False) W W'

theorem Ext.refl (X : Nat → Prop) (W : World) : Ext X W W := ⟨rfl, rfl, rfl, Nat.le_refl _, fun _ _ _ => rfl⟩
theorem Ext.trans {X : Nat → Prop} {a b c : World} (h : Ext X a b) (k : Ext X b c) : Ext X a c :=
  ⟨k.os.trans h.os, k.tape.trans h.tape, k.output.trans h.output, Nat.le_trans h.size k.size, fun i hi hx => (k.block i (Nat.lt_of_lt_of_le hi h.size) hx).trans (h.block i hi hx)⟩
theorem Ext.mono {X Y : Nat → Prop} {a b : World} (h : Ext X a b) (hxy : ∀ k, k < a.heap.size → X k → Y k) : Ext Y a b :=
  ⟨h.os, h.tape, h.output, h.size, fun i hi hy => h.block i hi (fun hx => hy (hxy i hi hx))⟩
theorem Keeps.ext {X : Nat → Prop} {a b : World} (h : Keeps a b) : Ext X a b := Ext.mono h (fun _ _ hx => hx.elim)
theorem Keeps.below {a b : World} (h : Keeps a b) : Below a.heap.size a b := ⟨h.os, h.tape, h.output, h.size, fun k hk => h.block k hk id⟩
theorem Keeps.of_below {a b : World} (h : Below a.heap.size a b) : Keeps a b := ⟨h.os, h.tape, h.output, h.size, fun k hk _ => h.block k hk⟩
theorem Keeps.refl (a : World) : Keeps a a := Ext.refl _ _
theorem Keeps.drew (a : World) : Keeps a a.drew := ⟨rfl, rfl, rfl, Nat.le_refl _, fun _ _ _ => rfl⟩
theorem Keeps.alloc (a : World) (o : Obj) : Keeps a (a.alloc o) :=
  ⟨rfl, rfl, rfl, by show a.heap.size ≤ (a.heap.push o).size; simp, fun k hk _ => by show (a.heap.push o)[k]? = _; rw [Array.getElem?_push, if_neg (by omega)]⟩

/-- A growing slice, where it lies. -/
structure VecAt (P : Program) (own : Nat → Prop) (β : Adr) (W : World) (i v n : Nat) (l : List (SV A)) (ty : TypeId) : Prop where
  free : β i = none
  last : ∀ v', v < v' → β.gs i v' = none
  lies : ∃ bo cap vs sz, β.gs i v = some (bo, cap) ∧ sizeT P ty = some sz ∧ LIs β l vs ∧ vs.length = n * sz ∧ n ≤ cap ∧
    ∀ b, bo = some b → own b ∧ ∃ tail, W.heap[b]? = some (.cells (vs ++ tail).toArray ty (0, 0)) ∧ (vs ++ tail).length = cap * sz
  nil : ∀ cap, β.gs i v = some (none, cap) → n = 0 ∧ cap = 0

/-- Block b is that of the growing slice i. -/
def vecIn (β : Adr) (m : Mem A) (i b : Nat) : Prop := ∃ blk v n l cap, nth m i = some (some blk) ∧ blk.vec = some (v, n, l) ∧ β.gs i v = some (some b, cap)

/-- Block b is that of the writable block i, or of the growing slice i. -/
def wrt (β : Adr) (m : Mem A) (i b : Nat) : Prop := (∃ blk, nth m i = some (some blk) ∧ blk.vec = none ∧ blk.ro = false ∧ β i = some b) ∨ vecIn β m i b

/-- The memory of a shadow state, in a world. -/
structure MRel (c : Cfg A) (X : Nat → Prop) (W0 : World) (β : Adr) (m : Mem A) (W : World) : Prop where
  mem : ∀ i blk, nth m i = some (some blk) → blk.vec = none → ∃ b vs fz, β i = some b ∧ LIs β blk.cells vs ∧ W.heap[b]? = some (.cells vs.toArray blk.ty fz) ∧
    (blk.ro = false → fz = (0, 0) ∧ (W0.heap.size ≤ b ∨ X b))
  inj : ∀ i j bi bj b, nth m i = some (some bi) → nth m j = some (some bj) → β i = some b → β j = some b → i = j
  dom : ∀ i b, β i = some b → b < W.heap.size
  ext : Ext X W0 W
  glob : ∀ g i, c.gl g = some i → β i = some g
  old : ∀ a v, c.old a = some v → W0.cell? a = some v ∧ a.block < W0.heap.size ∧ ¬ X a.block
  nc : ∀ k, β.kp k → W.heap[k]? = some (.deferred (some [])) ∧ (W0.heap.size ≤ k ∨ X k)
  kn : ∀ a v, β.kn a v → W.cell? a = some v ∧ (W0.heap.size ≤ a.block ∨ X a.block) ∧ ∀ i, ¬ wrt β m i a.block
  vec : ∀ i blk v n l, nth m i = some (some blk) → blk.vec = some (v, n, l) → VecAt c.P (fun b => W0.heap.size ≤ b ∨ X b) β W i v n l blk.ty
  sep : ∀ i b, vecIn β m i b → ∀ j, (∀ blk, nth m j = some (some blk) → β j ≠ some b) ∧ (vecIn β m j b → i = j)

theorem cell?_heap {W : World} {a : Addr} {v : Value} (h : W.cell? a = some v) : ∃ cs t fz, W.heap[a.block]? = some (.cells cs t fz) := by
  unfold World.cell? at h
  split at h
  · rename_i cs t fz hh
    exact ⟨cs, t, fz, hh⟩
  · cases h

theorem cell?_lt {W : World} {a : Addr} {v : Value} (h : W.cell? a = some v) : a.block < W.heap.size := by
  obtain ⟨_, _, _, h⟩ := cell?_heap h
  exact (Array.getElem?_eq_some_iff.1 h).1

theorem cell?_same {W W' : World} {a : Addr} {v : Value} (h : W.cell? a = some v) (e : W'.heap[a.block]? = W.heap[a.block]?) : W'.cell? a = some v := by
  rw [World.cell?_of_block e]; exact h

theorem VecAt.kept {P : Program} {own own' : Nat → Prop} {β : Adr} {W W' : World} {i v n : Nat} {l : List (SV A)} {ty : TypeId} (h : VecAt P own β W i v n l ty) (ho : ∀ b cap, β.gs i v = some (some b, cap) → own b → own' b)
    (hk : ∀ b cap, β.gs i v = some (some b, cap) → W'.heap[b]? = W.heap[b]?) : VecAt P own' β W' i v n l ty := by
  refine ⟨h.free, h.last, ?_, h.nil⟩
  obtain ⟨bo, cap, vs, sz, h1, h2, h3, h4, h5, h6⟩ := h.lies
  refine ⟨bo, cap, vs, sz, h1, h2, h3, h4, h5, fun b hb => ?_⟩
  obtain ⟨k1, tail, k2, k3⟩ := h6 b hb
  subst hb
  exact ⟨ho b cap h1 k1, tail, by rw [hk b cap h1]; exact k2, k3⟩

theorem VecAt.mono {P : Program} {own : Nat → Prop} {β β' : Adr} {W : World} {i v n : Nat} {l : List (SV A)} {ty : TypeId} (h : VecAt P own β W i v n l ty) (hle : Adr.le β β') (hf : β' i = none) (hl : ∀ v', v < v' → β'.gs i v' = none) : VecAt P own β' W i v n l ty := by
  obtain ⟨bo, cap, vs, sz, h1, h2, h3, h4, h5, h6⟩ := h.lies
  refine ⟨hf, hl, ⟨bo, cap, vs, sz, hle.gs _ _ _ h1, h2, h3.mono hle, h4, h5, h6⟩, fun cap' hc => ?_⟩
  have := (hle.gs _ _ _ h1).symm.trans hc
  simp only [Option.some.injEq, Prod.mk.injEq] at this
  obtain ⟨rfl, rfl⟩ := this
  exact h.nil _ h1

theorem vecIn.block {c : Cfg A} {X : Nat → Prop} {W0 W : World} {β : Adr} {m : Mem A} (h : MRel c X W0 β m W) {i b : Nat} (hv : vecIn β m i b) : ∃ cs t, W.heap[b]? = some (.cells cs t (0, 0)) ∧ (W0.heap.size ≤ b ∨ X b) := by
  obtain ⟨blk, v, n, l, cap, h1, h2, h3⟩ := hv
  obtain ⟨bo, cap', vs, sz, k1, k2, k3, k4, k5, k6⟩ := (h.vec i blk v n l h1 h2).lies
  have := k1.symm.trans h3
  simp only [Option.some.injEq, Prod.mk.injEq] at this
  obtain ⟨rfl, rfl⟩ := this
  obtain ⟨g1, tail, g2, g3⟩ := k6 b rfl
  exact ⟨_, _, g2, g1⟩

theorem wrt.block {c : Cfg A} {X : Nat → Prop} {W0 W : World} {β : Adr} {m : Mem A} (h : MRel c X W0 β m W) {i b : Nat} (hv : wrt β m i b) : ∃ cs t, W.heap[b]? = some (.cells cs t (0, 0)) ∧ (W0.heap.size ≤ b ∨ X b) := by
  rcases hv with ⟨blk, h1, h2, h3, h4⟩ | hv
  · obtain ⟨b', vs, fz, g1, g2, g3, g4⟩ := h.mem i blk h1 h2
    have : b' = b := Option.some.inj (g1.symm.trans h4)
    subst this
    obtain ⟨rfl, g5⟩ := g4 h3
    exact ⟨_, _, g3, g5⟩
  · exact hv.block h

theorem wrt.lt {c : Cfg A} {X : Nat → Prop} {W0 W : World} {β : Adr} {m : Mem A} (h : MRel c X W0 β m W) {i b : Nat} (hv : wrt β m i b) : b < W.heap.size := by
  obtain ⟨_, _, h1, _⟩ := hv.block h
  exact (Array.getElem?_eq_some_iff.1 h1).1

/-- A block that is at a place is none that grows. -/
theorem MRel.plain {c : Cfg A} {X : Nat → Prop} {W0 W : World} {β : Adr} {m : Mem A} (h : MRel c X W0 β m W) {i b : Nat} {blk : Blk A} (hi : nth m i = some (some blk)) (hb : β i = some b) : blk.vec = none := by
  cases e : blk.vec with
  | none => rfl
  | some x =>
    obtain ⟨v, n, l⟩ := x
    have := (h.vec i blk v n l hi e).free
    rw [hb] at this
    cases this

/-- What lies at a place. -/
theorem MRel.at {c : Cfg A} {X : Nat → Prop} {W0 W : World} {β : Adr} {m : Mem A} (h : MRel c X W0 β m W) {i b : Nat} {blk : Blk A} (hi : nth m i = some (some blk)) (hb : β i = some b) :
    ∃ vs fz, LIs β blk.cells vs ∧ W.heap[b]? = some (.cells vs.toArray blk.ty fz) ∧ (blk.ro = false → fz = (0, 0) ∧ (W0.heap.size ≤ b ∨ X b)) := by
  obtain ⟨b', vs, fz, g1, g2, g3, g4⟩ := h.mem i blk hi (h.plain hi hb)
  have : b' = b := Option.some.inj (g1.symm.trans hb)
  subst this
  exact ⟨vs, fz, g2, g3, g4⟩

/-- The same, in the words of the memory. -/
theorem MRel.mem' {c : Cfg A} {X : Nat → Prop} {W0 W : World} {β : Adr} {m : Mem A} (h : MRel c X W0 β m W) {i b : Nat} {blk : Blk A} (hi : nth m i = some (some blk)) (hb : β i = some b) :
    ∃ b vs fz, β i = some b ∧ LIs β blk.cells vs ∧ W.heap[b]? = some (.cells vs.toArray blk.ty fz) ∧ (blk.ro = false → fz = (0, 0) ∧ (W0.heap.size ≤ b ∨ X b)) :=
  h.mem i blk hi (h.plain hi hb)

theorem vecIn.of {β : Adr} {m m' : Mem A} (live : ∀ i blk, nth m' i = some (some blk) → nth m i = some (some blk)) {i b : Nat} (h : vecIn β m' i b) : vecIn β m i b := by
  obtain ⟨blk, v, n, l, cap, h1, h2, h3⟩ := h
  exact ⟨blk, v, n, l, cap, live _ _ h1, h2, h3⟩
theorem wrt.of {β : Adr} {m m' : Mem A} (live : ∀ i blk, nth m' i = some (some blk) → nth m i = some (some blk)) {i b : Nat} (h : wrt β m' i b) : wrt β m i b := by
  rcases h with ⟨blk, h1, h2⟩ | h
  · exact .inl ⟨blk, live _ _ h1, h2⟩
  · exact .inr (h.of live)

/-- A part of the memory. -/
theorem MRel.live {c : Cfg A} {X : Nat → Prop} {W0 W : World} {β : Adr} {m m' : Mem A} (h : MRel c X W0 β m W) (live : ∀ i blk, nth m' i = some (some blk) → nth m i = some (some blk)) : MRel c X W0 β m' W :=
  ⟨fun i blk hi => h.mem i blk (live _ _ hi), fun i j bi bj b li lj => h.inj i j bi bj b (live _ _ li) (live _ _ lj), h.dom, h.ext, h.glob, h.old, h.nc,
    fun a v hk => ⟨(h.kn a v hk).1, (h.kn a v hk).2.1, fun i hw => (h.kn a v hk).2.2 i (hw.of live)⟩, fun i blk v n l hi => h.vec i blk v n l (live _ _ hi),
    fun i b hv j => ⟨fun blk hj => (h.sep i b (hv.of live) j).1 blk (live _ _ hj), fun hv' => (h.sep i b (hv.of live) j).2 (hv'.of live)⟩⟩

theorem MRel.keeps {c : Cfg A} {X : Nat → Prop} {W0 : World} {β : Adr} {m : Mem A} {W W' : World} (h : MRel c X W0 β m W) (k : Keeps W W') : MRel c X W0 β m W' where
  mem := fun i blk hi hv => by
    obtain ⟨b, vs, fz, h1, h2, h3, h4⟩ := h.mem i blk hi hv
    exact ⟨b, vs, fz, h1, h2, by rw [k.block b (h.dom i b h1) id]; exact h3, h4⟩
  inj := h.inj
  dom := fun i b hi => Nat.lt_of_lt_of_le (h.dom i b hi) k.size
  ext := h.ext.trans k.ext
  glob := h.glob
  old := h.old
  nc := fun j hj => by
    have := h.nc j hj
    rw [k.block j (Array.getElem?_eq_some_iff.1 this.1).1 id]
    exact this
  kn := fun a v hk => by
    obtain ⟨h1, h2, h3⟩ := h.kn a v hk
    exact ⟨cell?_same h1 (k.block _ (cell?_lt h1) id), h2, h3⟩
  vec := fun i blk v n l hi hv => (h.vec i blk v n l hi hv).kept (fun _ _ _ h => h) (fun b cap hb => k.block b (wrt.lt h (.inr ⟨blk, v, n, l, cap, hi, hv, hb⟩)) id)
  sep := h.sep

/-- New cells that hold for good. -/
def Fresh (W W' : World) (K : Addr → Value → Prop) : Prop := ∀ a v, K a v → W'.cell? a = some v ∧ W.heap.size ≤ a.block
theorem Fresh.none (W W' : World) : Fresh W W' (fun _ _ => False) := fun _ _ h => h.elim

theorem wrt.know {β : Adr} {m : Mem A} {K : Addr → Value → Prop} {i b : Nat} : wrt (β.know K) m i b ↔ wrt β m i b := Iff.rfl

theorem MRel.know {c : Cfg A} {X : Nat → Prop} {W0 : World} {β : Adr} {m : Mem A} {W W' : World} (h : MRel c X W0 β m W) (k : Keeps W W') {K : Addr → Value → Prop} (hK : Fresh W W' K) : MRel c X W0 (β.know K) m W' := by
  have h' := h.keeps k
  have hle := Adr.le_know β K
  refine ⟨fun i blk hi hv => ?_, h'.inj, h'.dom, h'.ext, h'.glob, h'.old, h'.nc, fun a v hk => ?_, fun i blk v n l hi hv => (h'.vec i blk v n l hi hv).mono hle (h'.vec i blk v n l hi hv).free (h'.vec i blk v n l hi hv).last, h'.sep⟩
  · obtain ⟨b, vs, fz, h1, h2, h3, h4⟩ := h'.mem i blk hi hv
    exact ⟨b, vs, fz, h1, h2.mono hle, h3, h4⟩
  · rcases hk with hk | hk
    · exact h'.kn a v hk
    · obtain ⟨h1, h2⟩ := hK a v hk
      exact ⟨h1, .inl (Nat.le_trans h.ext.size h2), fun i hw => by have := wrt.lt h hw; omega⟩

theorem MRel.cell {c : Cfg A} {X : Nat → Prop} {W0 : World} {β : Adr} {m : Mem A} {W : World} (h : MRel c X W0 β m W) {a : Addr} {v : Value} (e : c.old a = some v) : W.cell? a = some v := by
  obtain ⟨h1, h2, h3⟩ := h.old a v e
  rw [← h1]
  exact World.cell?_of_block (w := W0) (h.ext.block a.block h2 h3)

/-- The calls that a frame has put off: none. -/
def Defs (ok : Nat → Prop) (β : Adr) : List Deferred → Prop
  | [] => True
  | d :: ds => (∃ D, d = { target := .collected D, args := #[] } ∧ β.kp D ∧ ok D ∧ ∀ d' ∈ ds, d' ≠ d) ∧ Defs ok β ds
theorem Defs.mono {ok : Nat → Prop} {β β' : Adr} (h : Adr.le β β') : ∀ {ds : List Deferred}, Defs ok β ds → Defs ok β' ds
  | [], _ => trivial
  | _ :: _, ⟨⟨D, h1, h2, h3⟩, h4⟩ => ⟨⟨D, h1, h.kp D h2, h3⟩, Defs.mono h h4⟩

/-- The slots of a shadow state, in a frame. -/
structure TRel (β : Adr) (t : List (TV A)) (a : Act) : Prop where
  tmps : TsIs β t a.tmps.toList

/-- Beyond the memory's end no block has a place. -/
def Top (β : Adr) (m : Mem A) : Prop := ∀ i, m.length ≤ i → β i = none ∧ ∀ v, β.gs i v = none

/-- What holds no cells lies as it lay. -/
abbrev NC (W W' : World) : Prop := ∀ (k : Nat) (o : Obj), W.heap[k]? = some o → o.isCells = false → W'.heap[k]? = some o
theorem NC.refl (W : World) : NC W W := fun _ _ h _ => h
theorem NC.trans {a b c : World} (h : NC a b) (k : NC b c) : NC a c := fun i o hi ho => k i o (h i o hi ho) ho
theorem Keeps.nc {W W' : World} (h : Keeps W W') : NC W W' := fun k _ hk _ => (h.block k (Array.getElem?_eq_some_iff.1 hk).1 id).trans hk

/-- The record of a loop over a function that is under way. -/
def YAt (X : Nat → Prop) (W0 : World) (β : Adr) (s : Ys A) (e : Option Ex) (W : World) : Prop :=
  ∃ (l : Nat) (rec : Loop), β s.ix = some l ∧ W.heap[l]? = some (.loop rec) ∧ (W0.heap.size ≤ l ∨ X l) ∧ rec.params.toList = s.ps ∧ rec.assign = s.assign ∧ rec.body = s.body ∧ TsIs β s.t rec.tmps.toList ∧
    (match e with
     | none => rec.state = .ready ∧ rec.pending = none
     | some e => rec.state = .done ∧ rec.pending = some e.code)

def YAll (X : Nat → Prop) (W0 : World) (β : Adr) : List (Ys A) → Pds → World → Prop
  | [], [], _ => True
  | s :: ss, e :: es, W => YAt X W0 β s e W ∧ (∀ s' ∈ ss, β s'.ix ≠ β s.ix) ∧ YAll X W0 β ss es W
  | _, _, _ => False

theorem YAt.kept {X : Nat → Prop} {W0 : World} {β β' : Adr} {s : Ys A} {e : Option Ex} {W W' : World} (h : YAt X W0 β s e W) (hle : Adr.le β β') (hn : ∀ l r, β s.ix = some l → W.heap[l]? = some (.loop r) → W'.heap[l]? = some (.loop r)) : YAt X W0 β' s e W' := by
  obtain ⟨l, rec, h1, h2, h3, h4, h5, h6, h7, h8⟩ := h
  exact ⟨l, rec, hle.pl _ _ h1, hn l rec h1 h2, h3, h4, h5, h6, h7.mono hle, h8⟩

theorem YAll.has {X : Nat → Prop} {W0 : World} {β : Adr} {W : World} : ∀ {ss : List (Ys A)} {es : Pds}, YAll X W0 β ss es W → ∀ s ∈ ss, ∃ e, YAt X W0 β s e W
  | s :: ss, e :: es, ⟨h1, _, h3⟩, s', hs' => by
    rcases List.mem_cons.1 hs' with rfl | hs'
    · exact ⟨e, h1⟩
    · exact YAll.has h3 s' hs'
  | [], _, _, _, h => by cases h
  | _ :: _, [], h, _, _ => h.elim

theorem YAll.kept' {X : Nat → Prop} {W0 : World} {β β' : Adr} (hle : Adr.le β β') {W W' : World} : ∀ {ss : List (Ys A)} {es : Pds}, YAll X W0 β ss es W →
    (∀ s ∈ ss, ∀ l r, β s.ix = some l → W.heap[l]? = some (.loop r) → W'.heap[l]? = some (.loop r)) → YAll X W0 β' ss es W'
  | [], [], _, _ => trivial
  | s :: ss, e :: es, ⟨h1, h2, h3⟩, hn => by
    have hs := h1
    refine ⟨h1.kept hle (hn s (by simp)), fun s' hs' => ?_, YAll.kept' hle h3 (fun s' hs' => hn s' (by simp [hs']))⟩
    obtain ⟨l, _, k1, _⟩ := hs
    obtain ⟨e', l', _, k2, _⟩ := h3.has s' hs'
    have := h2 s' hs'
    rw [k1, k2] at this
    rw [hle.pl _ _ k1, hle.pl _ _ k2]
    exact this
  | [], _ :: _, h, _ => h.elim
  | _ :: _, [], h, _ => h.elim

theorem YAll.kept {X : Nat → Prop} {W0 : World} {β β' : Adr} {W W' : World} {ss : List (Ys A)} {es : Pds} (h : YAll X W0 β ss es W) (hle : Adr.le β β') (hn : NC W W') : YAll X W0 β' ss es W' :=
  h.kept' hle (fun _ _ l _ _ hl => hn l _ hl rfl)

structure Rel (c : Cfg A) (X : Nat → Prop) (W0 : World) (β : Adr) (st : St A) (a : Act) (W : World) : Prop where
  t : TRel β st.t a
  m : MRel c X W0 β st.m W
  top : Top β st.m
  d : Defs (fun k => W0.heap.size ≤ k ∨ X k) β a.defers
  y : YAll X W0 β c.ys st.pd W

theorem put_defers (a : Act) (d : Option Tmp) (v : Value) : (a.put d v).defers = a.defers := by cases d <;> rfl

theorem TRel.mono {β β' : Adr} (h : Adr.le β β') {t : List (TV A)} {a : Act} (ht : TRel β t a) : TRel β' t a := ⟨ht.tmps.mono h⟩

theorem TRel.put {β : Adr} {st : St A} {a : Act} (h : TRel β st.t a) {d : Option Tmp} {tv : TV A} {v : Value} (hv : tv.Is β v) : TRel β (putT st d tv).t (a.put d v) := by
  cases d with
  | none => exact h
  | some d =>
    refine ⟨?_⟩
    simp only [putT, Act.put, Array.toList_setIfInBounds]
    exact h.tmps.set hv

theorem undefT_is (β : Adr) : (undefT : TV A).Is β undef := ⟨[], rfl, rfl⟩

theorem ofConst_is {β : Adr} {v : Value} {tv : TV A} (h : ofConst v = some tv) : tv.Is β v := by
  unfold ofConst at h
  split at h
  · rename_i cs
    split at h
    · rename_i hall
      simp at h; subst h
      refine ⟨cs.toList, LIs.vs (fun v hv => List.all_eq_true.1 hall v hv), by simp⟩
    · cases h
  · cases h
  · rename_i h1 h2
    simp at h; subst h
    refine ⟨[v], [], ⟨rfl, ?_⟩, rfl, rfl⟩
    cases v <;> first | rfl | exact absurd rfl (h1 _) | exact absurd rfl (h2 _)

theorem evO_is {c : Cfg A} {X : Nat → Prop} {W0 W : World} {β : Adr} {st : St A} {a : Act} (ht : TRel β st.t a) (hm : MRel c X W0 β st.m W) {x : Operand} {tv : TV A}
    (h : evO c st x = some tv) : tv.Is β (a.eval x) := by
  cases x with
  | tmp t =>
    obtain ⟨v, hv, hi⟩ := ht.tmps.nth h
    have : a.eval (.tmp t) = v := by
      simp only [Act.eval]
      simp at hv
      rw [Array.getD_eq_getD_getElem?, hv]; rfl
    rw [this]; exact hi
  | const v => exact ofConst_is h
  | global g =>
    simp only [evO] at h
    split at h
    · rename_i i hg
      simp at h; subst h
      exact ⟨[_], [], ⟨g, hm.glob g i hg, rfl⟩, rfl, rfl⟩
    · cases h
  | func f =>
    simp only [evO] at h
    simp at h; subst h
    exact ⟨[_], [], ⟨[], rfl, rfl⟩, rfl, rfl⟩

theorem evL_is {c : Cfg A} {X : Nat → Prop} {W0 W : World} {β : Adr} {st : St A} {a : Act} (ht : TRel β st.t a) (hm : MRel c X W0 β st.m W) :
    ∀ {l : List Operand} {tvs : List (TV A)}, evL c st l = some tvs → TsIs β tvs (l.map a.eval)
  | [], tvs, h => by simp [evL] at h; subst h; rfl
  | x :: r, tvs, h => by
    simp only [evL] at h
    split at h
    · rename_i v l hv hl
      simp at h; subst h
      exact ⟨_, _, evO_is ht hm hv, evL_is ht hm hl, rfl⟩
    · cases h

/-- One cell. -/
theorem LIs.single {β : Adr} {s : SV A} {v : Value} (h : LIs β [s] [v]) : s.Is β [v] := by
  obtain ⟨x, y, h1, h2, e⟩ := h
  obtain rfl : y = [] := h2
  rw [List.append_nil] at e
  rw [e]; exact h1

theorem LIs.of_single {β : Adr} {s : SV A} {v : Value} (h : s.Is β [v]) : LIs β [s] [v] := ⟨[v], [], h, rfl, rfl⟩

theorem intOfSV_is {β : Adr} {s : SV A} {v : Value} {l : Bool} {k : IntKind} {x : Int} (h : s.Is β [v]) (e : intOfSV s = some (l, k, x)) : v = .int k x := by
  cases s with
  | v y =>
    obtain ⟨hv, _⟩ := h
    simp at hv
    unfold intOfSV at e
    split at e
    · rename_i k' x' hs
      simp at hs; simp at e
      obtain ⟨_, rfl, rfl⟩ := e
      rw [hv, hs]
    all_goals first | (cases e; done) | (rename_i h1; cases h1)
  | n k' x' => simp [intOfSV] at e; obtain ⟨_, rfl, rfl⟩ := e; simp [SV.Is] at h; exact h
  | a y =>
    simp only [intOfSV] at e
    split at e
    · rename_i k' z hz
      simp at e
      obtain ⟨_, rfl, rfl⟩ := e
      have h1 : [v] = Atom.cells y := h
      rw [Atom.int_ok hz] at h1
      simpa using h1
    · cases e
  | _ => simp [intOfSV] at e

theorem intOfSV_size {s : SV A} {x : Bool × IntKind × Int} (h : intOfSV s = some x) : s.size = 1 := by
  cases s with
  | a y =>
    simp only [intOfSV] at h
    split at h
    · rename_i k z hz
      have := Atom.len y
      rw [Atom.int_ok hz] at this
      simpa [SV.size] using this.symm
    · cases h
  | _ => rfl

theorem mkW_is {β : Adr} (l : Bool) (k : IntKind) (x : Int) : (mkW l k x : SV A).Is β [.int k (k.wrap x)] := by
  unfold mkW
  split
  · exact ⟨rfl, rfl⟩
  · split
    · rename_i y hy
      exact (Atom.wrap_ok hy).symm
    · exact rfl

theorem mkB_is {β : Adr} (l : Bool) (x : Bool) : (mkB l x : SV A).Is β [.bool x] := by
  cases l
  · exact rfl
  · exact ⟨rfl, rfl⟩

theorem litOf_is {β : Adr} {t : TV A} {v : Value} {x : Int} (h : t.Is β v) (e : litOf t = some x) : ∃ k, v = .int k x := by
  unfold litOf at e
  split at e
  · rename_i k y
    simp at e; subst e
    obtain ⟨hv, _⟩ := LIs.single h
    simp at hv
    exact ⟨k, hv⟩
  · cases e

theorem addrOf_is {β : Adr} {t : TV A} {v : Value} {i off : Nat} (h : t.Is β v) (e : addrOf t = some (i, off)) : ∃ b, β i = some b ∧ v = .pointer (some ⟨b, off, none⟩) := by
  unfold addrOf at e
  split at e
  · rename_i i' off'
    simp at e
    obtain ⟨rfl, rfl⟩ := e
    obtain ⟨b, hb, hv⟩ := LIs.single h
    simp at hv
    exact ⟨b, hb, hv⟩
  · cases e

theorem cellsT_is {β : Adr} {t : TV A} {v : Value} {l : List (SV A)} (h : t.Is β v) (e : cellsT t = some l) : LIs β l v.cells.toList := by
  unfold cellsT at e
  split at e
  · rename_i g l'
    simp at e; subst e
    cases g with
    | true => obtain ⟨vs, h1, rfl⟩ := h; simpa [Value.cells] using h1
    | false =>
      have hv : LIs β l' [v] := h
      have h1 := hv.one v (by simp)
      cases v <;> first | (simpa [Value.cells] using hv) | (simp [Value.oneCell'] at h1)
  · cases e

theorem boolOf_is {β : Adr} {t : TV A} {v : Value} {b : Bool} (h : t.Is β v) (e : boolOf t = some b) : v = .bool b := by
  unfold boolOf at e
  split at e
  · rename_i b'
    simp at e
    subst e
    obtain ⟨hv, _⟩ := LIs.single h
    simp at hv
    exact hv
  · cases e

theorem decT_is {c : Cfg A} {β : Adr} {rd : Nat} {d : Option Tmp} {t : TV A} {v : Value} (h : t.Is β v) (hvc : ∀ p ∈ (decT c rd d t).2, p) : (decT c rd d t).1.Is β v := by
  unfold decT at hvc ⊢
  split
  · split
    · rename_i x
      split
      · rename_i l hl
        simp only [hl] at hvc
        have h1 : x = l := hvc _ (by simp)
        have hv := LIs.single h
        simp [SV.Is] at hv
        subst h1
        rw [hv]
        exact LIs.of_single ⟨rfl, rfl⟩
      · have hv := LIs.single h
        simp [SV.Is] at hv
        rw [hv]
        cases x <;> exact LIs.of_single ⟨rfl, rfl⟩
      · exact h
    · rename_i k x
      have hv := LIs.single h
      simp [SV.Is] at hv
      cases hn : c.nw with
      | true =>
        simp only [hn] at hvc
        have h1 : k.wrap x = x := hvc _ (by simp)
        rw [hv, h1]
        exact LIs.of_single rfl
      | false =>
        rw [hv]
        exact LIs.of_single rfl
    · exact h
  · exact h

theorem boolSV_is {β : Adr} {s : SV A} {v : Value} {l x : Bool} (h : s.Is β [v]) (e : boolSV s = some (l, x)) : v = .bool x := by
  cases s with
  | v y =>
    obtain ⟨hv, _⟩ := h
    simp at hv
    unfold boolSV at e
    split at e
    · rename_i x' hs
      simp at hs; simp at e
      obtain ⟨_, rfl⟩ := e
      rw [hv, hs]
    all_goals first | (cases e; done) | (rename_i h1; cases h1)
  | b y => simp [boolSV] at e; obtain ⟨_, rfl⟩ := e; simp [SV.Is] at h; exact h
  | _ => simp [boolSV] at e

theorem natOf_eq {x : Int} {n : Nat} (h : natOf x = some n) : x = n := by
  unfold natOf at h
  split at h
  · simp at h; subst h; rfl
  · cases h

end
end Go.Sh

/- Aggregates of whole numbers, held against one another. -/
namespace Go.Sh
open Go.RowKit

theorem run_isAggS {P : Program} {w : World} {t : TypeId} {b : Bool} (h : isAggB P t = some b) : (isAgg t).run P w = .ok b w := by
  unfold isAggB at h
  unfold isAgg
  split at h
  · rename_i hu; cases h; rw [Sem.run_bind, run_underlying hu]; rfl
  · rename_i hu; cases h; rw [Sem.run_bind, run_underlying hu]; rfl
  · rename_i d h1 h2 hu
    cases h
    rw [Sem.run_bind, run_underlying hu, Result.andThen_ok]
    split <;> simp_all
  · cases h

/-- Cells that are whole numbers, pairwise of a kind: are all the same? -/
def eqVs : List Value → List Value → Option Bool
  | [], [] => some true
  | .int k a :: l, .int k' b :: r => if k = k' then (match eqVs l r with | some q => some ((a == b) && q) | none => none) else none
  | _, _ => none

theorem eqVs_len : ∀ {x y : List Value} {q : Bool}, eqVs x y = some q → x.length = y.length
  | [], [], _, _ => rfl
  | .int _ _ :: l, .int _ _ :: r, q, h => by
    simp only [eqVs] at h
    split at h
    · split at h
      · rename_i h'; simp [eqVs_len h']
      · cases h
    · cases h
  | [], _ :: _, _, h => by simp [eqVs] at h
  | x :: l, [], q, h => by cases x <;> simp [eqVs] at h
  | x :: l, y :: r, q, h => by
    cases x <;> cases y <;> simp only [eqVs] at h <;> try cases h
    split at h
    · split at h
      · rename_i h'; simp [eqVs_len h']
      · cases h
    · cases h

theorem eqVs_cons {k k' : IntKind} {a b : Int} {l r : List Value} {q : Bool} (h : eqVs (.int k a :: l) (.int k' b :: r) = some q) : k = k' ∧ ∃ q', eqVs l r = some q' ∧ q = ((a == b) && q') := by
  simp only [eqVs] at h
  split at h
  · split at h
    · rename_i hk _ q' hq
      exact ⟨hk, q', hq, by simpa using h.symm⟩
    · cases h
  · cases h

theorem eqVs_ints : ∀ {x y : List Value} {q : Bool}, eqVs x y = some q → ∀ u v l r, x = u :: l → y = v :: r → ∃ k a b, u = .int k a ∧ v = .int k b := by
  rintro x y q h u v l r rfl rfl
  cases u <;> cases v <;> simp only [eqVs] at h <;> try cases h
  split at h
  · rename_i hk; subst hk; exact ⟨_, _, _, rfl, rfl⟩
  · cases h

theorem eqVs_append : ∀ {x x' y y' : List Value} {q : Bool}, x.length = y.length → eqVs (x ++ x') (y ++ y') = some q → ∃ q1 q2, eqVs x y = some q1 ∧ eqVs x' y' = some q2 ∧ q = (q1 && q2)
  | [], x', [], y', q, _, h => ⟨true, q, rfl, h, by simp⟩
  | u :: l, x', v :: r, y', q, hl, h => by
    obtain ⟨k, a, b, rfl, rfl⟩ := eqVs_ints h _ _ _ _ rfl rfl
    obtain ⟨_, q', hq, e⟩ := eqVs_cons h
    obtain ⟨q1, q2, h1, h2, e2⟩ := eqVs_append (by simpa using hl) hq
    exact ⟨(a == b) && q1, q2, by simp [eqVs, h1], h2, by rw [e, e2, Bool.and_assoc]⟩
  | [], _, _ :: _, _, _, hl, _ => by simp at hl
  | _ :: _, _, [], _, _, hl, _ => by simp at hl

theorem eqRows_vs {A : Type} [Atom A] {β : Adr} : ∀ {l r : List (SV A)} {lit q : Bool} {xs ys : List Value}, eqRows l r = some (lit, q) → LIs β l xs → LIs β r ys → xs.length = l.length ∧ eqVs xs ys = some q
  | [], [], _, _, xs, ys, h, hx, hy => by
    simp [eqRows] at h
    obtain ⟨_, rfl⟩ := h
    obtain rfl : xs = [] := hx
    obtain rfl : ys = [] := hy
    exact ⟨rfl, rfl⟩
  | x :: l, y :: r, lit, q, xs, ys, h, hx, hy => by
    simp only [eqRows] at h
    split at h
    · rename_i lx kx a ly ky b lit' e' h1 h2 h3
      split at h
      · rename_i hk
        simp at h
        obtain ⟨_, rfl⟩ := h
        obtain ⟨ux, vx, hx1, hx2, rfl⟩ := hx
        obtain ⟨uy, vy, hy1, hy2, rfl⟩ := hy
        have sx : x.size = 1 := intOfSV_size h1
        have sy : y.size = 1 := intOfSV_size h2
        have lx1 := hx1.len
        have ly1 := hy1.len
        rw [sx] at lx1
        rw [sy] at ly1
        match ux, uy, lx1, ly1 with
        | [u], [v], _, _ =>
          have eu := intOfSV_is hx1 h1
          have ev := intOfSV_is hy1 h2
          subst eu; subst ev; subst hk
          obtain ⟨i1, i2⟩ := eqRows_vs h3 hx2 hy2
          exact ⟨by simp [i1], by simp [eqVs, i2]⟩
      · cases h
    · cases h
  | [], _ :: _, _, _, _, _, h, _, _ => by simp [eqRows] at h
  | _ :: _, [], _, _, _, _, h, _, _ => by simp [eqRows] at h

/-- Parts of a type, held against one another. -/
def PartEq (P : Program) (d : Nat) (t : TypeId) (m : Nat) : Prop :=
  ∀ (w : World) (X Y : Array Value) (off : Nat) (q : Bool), off + m ≤ X.size → off + m ≤ Y.size → eqVs ((X.toList.drop off).take m) ((Y.toList.drop off).take m) = some q →
    ∃ a b, (part t X off).run P w = .ok a w ∧ (part t Y off).run P w = .ok b w ∧ (Op.equalIn d t a b).run P w = .ok q w

theorem cut_split {X : List Value} {off m k : Nat} : (X.drop off).take (m + k) = (X.drop off).take m ++ (X.drop (off + m)).take k := by
  rw [List.take_add, List.drop_drop]

theorem items_eq {P : Program} {d : Nat} {e : TypeId} {m : Nat} (hc : P.cellsOf e = m) (IH : PartEq P d e m) (w : World) (X Y : Array Value) : ∀ (n i : Nat) (q : Bool), (i + n) * m ≤ X.size → (i + n) * m ≤ Y.size →
    eqVs ((X.toList.drop (i * m)).take (n * m)) ((Y.toList.drop (i * m)).take (n * m)) = some q → (Op.eqItems d e (P.cellsOf e) X Y (List.range' i n)).run P w = .ok q w
  | 0, i, q, _, _, h => by
    simp [eqVs] at h
    subst h
    simp [Op.eqItems]
  | n + 1, i, q, hX, hY, h => by
    have e1 : (n + 1) * m = m + n * m := by rw [Nat.succ_mul, Nat.add_comm]
    have e2 : i * m + m = (i + 1) * m := by rw [Nat.succ_mul]
    have e3 : (i + (n + 1)) * m = i * m + (m + n * m) := by rw [Nat.add_mul, e1]
    rw [e3] at hX hY
    rw [e1, cut_split, cut_split, e2] at h
    obtain ⟨q1, q2, h1, h2, rfl⟩ := eqVs_append (by simp; omega) h
    obtain ⟨a, b, p1, p2, p3⟩ := IH w X Y (i * m) q1 (by omega) (by omega) h1
    have e4 : (i + 1 + n) * m = i * m + (m + n * m) := by rw [Nat.add_mul, Nat.succ_mul]; omega
    have ih := items_eq hc IH w X Y n (i + 1) q2 (by omega) (by omega) h2
    rw [List.range'_succ]
    simp only [Op.eqItems, Sem.run_bind]
    rw [hc] at ih ⊢
    rw [p1, Result.andThen_ok, p2, Result.andThen_ok, p3, Result.andThen_ok]
    cases q1
    · simp
    · simpa using ih

theorem fields_eq {P : Program} {d : Nat} {f : TypeId → Option Nat} (IH : ∀ t m, f t = some m → PartEq P d t m) (w : World) (X Y : Array Value) (base : Nat) : ∀ (fs : List Field) (off s : Nat) (q : Bool), flatFs P f off fs = some s → s ≤ X.size → s ≤ Y.size →
    eqVs ((X.toList.drop off).take (s - off)) ((Y.toList.drop off).take (s - off)) = some q → off ≤ s ∧ (Op.eqFields d X Y fs).run P w = .ok q w
  | [], off, s, q, h, _, _, hq => by
    simp [flatFs] at h
    subst h
    simp [eqVs] at hq
    subst hq
    exact ⟨Nat.le_refl _, by simp [Op.eqFields]⟩
  | x :: l, off, s, q, h, hX, hY, hq => by
    simp only [flatFs] at h
    split at h
    · rename_i m hm
      split at h
      · rename_i ho
        split at h
        · cases h
        · rename_i hn
          have hle : off + m ≤ s := by
            clear hq
            revert h
            generalize off + m = k
            clear hn ho
            induction l generalizing k with
            | nil => intro h; simp [flatFs] at h; omega
            | cons y r ih =>
              intro h
              simp only [flatFs] at h
              split at h
              · split at h
                · split at h
                  · cases h
                  · have := ih _ h; omega
                · cases h
              · cases h
          have es : s - off = m + (s - (off + m)) := by omega
          rw [es, cut_split, cut_split] at hq
          obtain ⟨q1, q2, h1, h2, rfl⟩ := eqVs_append (by simp; omega) hq
          obtain ⟨a, b, p1, p2, p3⟩ := IH _ _ hm w X Y off q1 (by omega) (by omega) h1
          obtain ⟨_, ih⟩ := fields_eq IH w X Y base l (off + m) s q2 h hX hY h2
          refine ⟨by omega, ?_⟩
          simp only [Op.eqFields, hn, ne_eq, not_false_eq_true, if_true, Sem.run_bind, ho]
          rw [p1, Result.andThen_ok, p2, Result.andThen_ok, p3, Result.andThen_ok]
          cases q1
          · simp
          · simpa using ih
      · cases h
    · cases h

theorem run_partAgg {P : Program} {w : World} {t : TypeId} {i : TypeInfo} (ha : isAggB P t = some true) (hi : P.info? t = some i) (X : Array Value) (off : Nat) :
    (part t X off).run P w = .ok (.agg (X.extract off (off + i.size))) w := by
  unfold part
  rw [Sem.run_bind, run_isAggS ha, Result.andThen_ok, if_pos rfl, Sem.run_bind, run_sizeOf w hi, Result.andThen_ok]
  simp [Program.cellsOf, hi]

theorem extract_cut (X : Array Value) (off m : Nat) : (X.extract off (off + m)).toList = (X.toList.drop off).take m := by
  rw [Array.toList_extract]
  simp [List.extract]

theorem eqFlat {P : Program} : ∀ (n d : Nat) (t : TypeId) (m : Nat), n ≤ d → flatI P n t = some m → PartEq P d t m
  | 0, _, _, _, _, h => by simp [flatI] at h
  | n + 1, d, t, m, hd, h => by
    obtain ⟨d, rfl⟩ : ∃ d', d = d' + 1 := ⟨d - 1, by omega⟩
    intro w X Y off q hX hY hq
    unfold flatI at h
    split at h
    · rename_i k hu hs
      simp at h; subst h
      have hx : X.toList[off]? = some X[off] := by simp
      have hy : Y.toList[off]? = some Y[off] := by simp
      have e1 : (X.toList.drop off).take 1 = [X[off]] := by
        rw [List.take_one, List.head?_drop, hx]; rfl
      have e2 : (Y.toList.drop off).take 1 = [Y[off]] := by
        rw [List.take_one, List.head?_drop, hy]; rfl
      rw [e1, e2] at hq
      obtain ⟨k', a, b, h1, h2⟩ := eqVs_ints hq _ _ _ _ rfl rfl
      rw [h1, h2] at hq
      obtain ⟨_, q', hq', e⟩ := eqVs_cons hq
      simp [eqVs] at hq'
      subst hq'
      have ha : isAggB P t = some false := by simp [isAggB, hu]
      refine ⟨.int k' a, .int k' b, ?_, ?_, ?_⟩
      · unfold part
        rw [Sem.run_bind, run_isAggS ha]
        simp [show X[off]? = some (.int k' a) by rw [Array.getElem?_eq_getElem (by omega), h1]]
      · unfold part
        rw [Sem.run_bind, run_isAggS ha]
        simp [show Y[off]? = some (.int k' b) by rw [Array.getElem?_eq_getElem (by omega), h2]]
      · rw [run_equalIn_int w d t k' k a b hu, e]
        simp
    · rename_i k e s hu hs
      split at h
      · rename_i me hme
        split at h
        · rename_i hk
          simp at h; subst h
          have IH := eqFlat n d e me (by omega) hme
          have ha : isAggB P t = some true := by simp [isAggB, hu]
          unfold sizeT at hs
          split at hs
          · rename_i i hi
            simp at hs
            have hce : P.cellsOf e = me := by
              cases n with
              | zero => simp [flatI] at hme
              | succ n =>
                have : sizeT P e = some me := by
                  unfold flatI at hme
                  split at hme
                  · rename_i h1 h2; rw [h2]; exact hme
                  · rename_i h1 h2
                    split at hme
                    · split at hme
                      · rw [h2]; exact hme
                      · cases hme
                    · cases hme
                  · rename_i h1 h2
                    split at hme
                    · cases hme
                    · split at hme
                      · rw [h2]; exact hme
                      · cases hme
                  · cases hme
                unfold sizeT at this
                split at this
                · rename_i j hj
                  simp at this
                  simp [Program.cellsOf, hj, this]
                · cases this
            obtain ⟨ie, hie⟩ : ∃ ie, P.info? e = some ie := by
              cases hie : P.info? e with
              | none =>
                have : sizeT P e = none := by simp [sizeT, hie]
                cases n with
                | zero => simp [flatI] at hme
                | succ n => unfold flatI at hme; rw [this] at hme; split at hme <;> simp_all
              | some ie => exact ⟨ie, rfl⟩
            refine ⟨_, _, run_partAgg ha hi X off, run_partAgg ha hi Y off, ?_⟩
            rw [hs, run_equalIn_array w d _ _ hu hie, List.range_eq_range']
            refine items_eq hce IH w _ _ k 0 q ?_ ?_ ?_
            · simp; omega
            · simp; omega
            · simp only [Nat.zero_mul, List.drop_zero, hk]
              rw [extract_cut, extract_cut, List.take_take, List.take_take, Nat.min_self]
              exact hq
          · cases hs
        · cases h
      · cases h
    · rename_i fs s hu hs
      split at h
      · cases h
      · rename_i hst
        split at h
        · rename_i hf
          simp at h; subst h
          have IH : ∀ t m, flatI P n t = some m → PartEq P d t m := fun t m => eqFlat n d t m (by omega)
          have ha : isAggB P t = some true := by simp [isAggB, hu]
          unfold sizeT at hs
          split at hs
          · rename_i i hi
            simp at hs
            have hfs : P.fieldsOf t = fs := by simp [Program.fieldsOf, hu]
            refine ⟨_, _, run_partAgg ha hi X off, run_partAgg ha hi Y off, ?_⟩
            rw [hs, run_equalIn_struct w d t _ _ (by rw [hfs]; exact hu) (by simpa using hst), hfs]
            refine (fields_eq IH w _ _ 0 fs.toList 0 s q hf ?_ ?_ ?_).2
            · simp; omega
            · simp; omega
            · simp only [Nat.sub_zero, List.drop_zero]
              rw [extract_cut, extract_cut, List.take_take, List.take_take, Nat.min_self]
              exact hq
          · cases hs
        · cases h
    · cases h

theorem flatFs_guard {P : Program} {f : TypeId → Option Nat} {d : Nat} (IH : ∀ t m, f t = some m → P.eqGuardType d t = false) : ∀ (fs : List Field) (off s : Nat), flatFs P f off fs = some s → (fs.any fun x => x.name != "_" && P.eqGuardType d x.type) = false
  | [], _, _, _ => rfl
  | x :: l, off, s, h => by
    simp only [flatFs] at h
    split at h
    · rename_i m hm
      split at h
      · split at h
        · cases h
        · rw [List.any_cons, IH _ _ hm, flatFs_guard IH l _ _ h, Bool.and_false, Bool.or_false]
      · cases h
    · cases h

theorem flatI_guard {P : Program} : ∀ (n d : Nat) (t : TypeId) (m : Nat), n ≤ d → flatI P n t = some m → P.eqGuardType d t = false
  | 0, _, _, _, _, h => by simp [flatI] at h
  | n + 1, d, t, m, hd, h => by
    obtain ⟨d, rfl⟩ : ∃ d', d = d' + 1 := ⟨d - 1, by omega⟩
    unfold flatI at h
    split at h
    · rename_i k hu hs
      simp [Program.eqGuardType, hu]
    · rename_i k e s hu hs
      split at h
      · rename_i me hme
        simp only [Program.eqGuardType, hu]
        exact flatI_guard n d e me (by omega) hme
      · cases h
    · rename_i fs s hu hs
      split at h
      · cases h
      · split at h
        · rename_i hf
          simp only [Program.eqGuardType, hu]
          rw [← Array.any_toList]
          exact flatFs_guard (fun t m => flatI_guard n d t m (by omega)) fs.toList 0 s hf
        · cases h
    · cases h

theorem flatI_agg {P : Program} {n m : Nat} {t : TypeId} (h : flatI P n t = some m) : sizeT P t = some m := by
  cases n with
  | zero => simp [flatI] at h
  | succ n =>
    unfold flatI at h
    split at h
    · rename_i h1 h2; rw [h2]; exact h
    · rename_i h1 h2
      split at h
      · split at h
        · rw [h2]; exact h
        · cases h
      · cases h
    · rename_i h1 h2
      split at h
      · cases h
      · split at h
        · rw [h2]; exact h
        · cases h
    · cases h

/-- Two aggregates of whole numbers. -/
theorem eqAgg_run {A : Type} [Atom A] {β : Adr} {P : Program} {w : World} {op : BinOp} {t : TypeId} {x y : Operand} {l r : List (SV A)} {lit q : Bool} {xs ys : List Value} {n : Nat} (ha : isAggB P t = some true) (ht : flatI P 6 t = some n)
    (h : eqRows l r = some (lit, q)) (hl : l.length = n) (hx : LIs β l xs) (hy : LIs β r ys) :
    (Op.equal t (.agg xs.toArray) (.agg ys.toArray)).run P w = .ok q w ∧ (eqGuard op t x y (.agg xs.toArray) (.agg ys.toArray)).run P w = .ok () w := by
  obtain ⟨h1, h2⟩ := eqRows_vs h hx hy
  have h3 := eqVs_len h2
  obtain ⟨a, b, p1, p2, p3⟩ := eqFlat 6 10000 t n (by omega) ht w xs.toArray ys.toArray 0 q (by simp; omega) (by simp; omega) (by
    simp only [List.drop_zero]
    rw [List.take_of_length_le (by omega), List.take_of_length_le (by omega)]
    exact h2)
  have hs := flatI_agg ht
  unfold sizeT at hs
  split at hs
  · rename_i i hi
    simp at hs
    have g : ∀ zs : List Value, zs.length = n → zs.toArray.extract 0 (0 + i.size) = zs.toArray := by
      intro zs hz
      apply Array.toList_inj.1
      rw [extract_cut, hs]
      simp only [List.drop_zero]
      exact List.take_of_length_le (by omega)
    rw [run_partAgg ha hi, g xs (by omega)] at p1
    rw [run_partAgg ha hi, g ys (by omega)] at p2
    obtain rfl : Value.agg xs.toArray = a := by simpa using p1
    obtain rfl : Value.agg ys.toArray = b := by simpa using p2
    refine ⟨p3, ?_⟩
    have hg : P.eqGuardType P.depth t = false := by
      refine flatI_guard 6 _ t n ?_ ht
      unfold Program.depth Made.depth
      omega
    exact run_eqGuard_agg w op t x y _ _ hg
  · cases hs

end Go.Sh

/- What the operations on shadows say is what the operations on values do. -/
namespace Go.Sh
open Go.RowKit

/-- A fence that lets all by. -/
def Fr (r : Option Nat) : Fence := { Fence.wide with round := r }

theorem callsIn_fr {r : Option Nat} {n : Nat} {P : Program} {f : FuncId} {args : Array Value} {w : World} {R : Ending → World → Prop} (h : Calls P f args w R) : CallsIn (Fr r) n P f args w R :=
  ⟨trivial, fun cs hr => (callsIn_wide.2 h : CallsIn Fence.wide n P f args w R).2 cs (fun d hd => by simp [Fence.wide] at hd)⟩

/-- An operation that yields. -/
def Yld (r : Option Nat) (n : Nat) (P : Program) (o : Oper) (a : Act) (W : World) (post : Value → World → Prop) : Prop :=
  ∀ (next : Act → World → Prop) (Q : Exit → Act → World → Prop), (∀ v W', post v W' → next (a.put o.dst v) W') → o.wpIn (Fr r) n P a W next Q

section
variable {r : Option Nat} {n : Nat} {P : Program} {o : Oper} {a : Act} {W W' : World} {post : Value → World → Prop}

theorem Yld.mono {post' : Value → World → Prop} (h : Yld r n P o a W post) (hp : ∀ v W', post v W' → post' v W') : Yld r n P o a W post' :=
  fun next Q hn => h next Q (fun v W' hv => hn v W' (hp v W' hv))

theorem yld_value {v : Value} (hd : ∀ c, o.op ≠ .defer c) (h : (execOp a.eval o).run P W = .ok (.value v) W') (hp : post v W') : Yld r n P o a W post := by
  intro next Q hn
  refine ⟨fun _ _ => trivial, ?_⟩
  rw [Oper.semAt_eq _ _ _ hd, h]
  exact hn v W' hp

theorem yld_skip (hd : ∀ c, o.op ≠ .defer c) (h : (execOp a.eval o).run P W = .ok .skip W') (hp : post undef W') : Yld r n P o a W post := by
  intro next Q hn
  refine ⟨fun _ _ => trivial, ?_⟩
  rw [Oper.semAt_eq _ _ _ hd, h]
  exact hn undef W' hp

theorem yld_enter {f : FuncId} {args : Array Value} (hd : ∀ c, o.op ≠ .defer c) (h : (execOp a.eval o).run P W = .ok (.enter f args) W')
    (hc : Calls P f args W' (fun e W'' => ∃ v, e = .returned v ∧ post v W'')) : Yld r n P o a W post := by
  intro next Q hn
  refine ⟨fun _ _ => trivial, ?_⟩
  rw [Oper.semAt_eq _ _ _ hd, h]
  refine ⟨fun hx => by simp [Fr, Fence.wide] at hx, (callsIn_fr hc).mono ?_⟩
  rintro e W'' ⟨v, rfl, hv⟩
  exact hn v W'' hv

/-- A call of function g: it runs here and now, or it is entered. -/
def CallSem (P : Program) (g : FuncId) (vs : List Value) (W : World) (post : Value → World → Prop) : Prop :=
  (∃ v, (callFunc g vs.toArray).run P W = .ok (.value v) W ∧ post v W) ∨
  ((callFunc g vs.toArray).run P W = .ok (.enter g vs.toArray) W ∧ Calls P g vs.toArray W (fun e W' => ∃ v, e = .returned v ∧ post v W'))

end

section
variable {A : Type} [Atom A]

/-- The table of calls is right. -/
def CallsOK (c : Cfg A) : Prop :=
  ∀ (g : FuncId) (args : List (TV A)) (m : Mem A) (res : TV A) (mm : Option (Mem A)) (vc : List Prop), c.call g args m = some (res, mm, vc) → (∀ p ∈ vc, p) →
    ∀ (X : Nat → Prop) (W0 W : World) (β : Adr) (vs : List Value), MRel c X W0 β m W → TsIs β args vs →
      match mm with
      | none => CallSem c.P g vs W (fun v W' => ∃ K, Fresh W W' K ∧ res.Is (β.know K) v ∧ Keeps W W')
      | some m' => Top β m → CallSem c.P g vs W (fun v W' => ∃ β', Adr.le β β' ∧ res.Is β' v ∧ MRel c X W0 β' m' W' ∧ Top β' m' ∧ NC W W')

section runs
variable {P : Program} {w : World} {β : Adr}

theorem run_isAgg {t : TypeId} {b : Bool} (h : isAggB P t = some b) : (isAgg t).run P w = .ok b w := by
  unfold isAggB at h
  unfold isAgg
  cases hu : P.underlying t with
  | none => simp [hu] at h
  | some d =>
    rw [Sem.run_bind, run_underlying hu w]
    simp only [hu] at h
    cases d <;> simp_all

theorem run_sizeT {t : TypeId} {k : Nat} (h : sizeT P t = some k) : (sizeOf t).run P w = .ok k w := by
  unfold sizeT at h
  split at h
  · rename_i i hi
    simp at h; subst h
    simp [sizeOf, typeInfo, hi]
  · cases h

theorem run_zeroT {t : TypeId} {cells : List (SV A)} (h : zeroT P t = some cells) : ∃ v, (zeroValue t).run P w = .ok v w ∧ LIs β cells v.cells.toList := by
  unfold zeroT at h
  split at h
  · rename_i i hi
    split at h
    · rename_i v hz
      split at h
      · rename_i hall
        simp at h; subst h
        exact ⟨v, by simp [zeroValue, typeInfo, hi, hz], LIs.vs (fun x hx => List.all_eq_true.1 hall x hx)⟩
      · cases h
    · cases h
  · cases h

theorem run_partV {t : TypeId} {l : List (SV A)} {off : Nat} {tv : TV A} {vs : List Value} (h : partV P t l off = some tv) (hl : LIs β l vs) :
    ∃ v, (part t vs.toArray off).run P w = .ok v w ∧ tv.Is β v := by
  unfold partV at h
  split at h
  · rename_i k ha hs
    split at h
    · rename_i x hx
      simp at h; subst h
      obtain ⟨h1, h2⟩ := cut_is hl hx
      refine ⟨.agg ((vs.drop off).take k).toArray, ?_, ⟨_, h1, rfl⟩⟩
      unfold part
      rw [Sem.run_bind, run_isAgg ha]
      simp only [Result.andThen_ok, if_true, Sem.run_bind, run_sizeT hs, Sem.run_pure]
      congr 2
      simp only [List.extract_toArray, List.extract_eq_take_drop]
      congr 2
      omega
    · cases h
  · rename_i ha _
    split at h
    · rename_i x hx
      simp at h; subst h
      obtain ⟨h1, h2⟩ := cut_is hl hx
      have hlt : off < vs.length := by omega
      have e : (vs.drop off).take 1 = [vs[off]] := by
        rw [List.drop_eq_getElem_cons hlt]; rfl
      rw [e] at h1
      refine ⟨vs[off], ?_, h1⟩
      unfold part
      rw [Sem.run_bind, run_isAgg ha]
      simp [hlt]
    · cases h
  · cases h

theorem add_none (b off k : Nat) : (⟨b, off, none⟩ : Addr).add k = ⟨b, off + k, none⟩ := by
  unfold Addr.add; split <;> simp_all

theorem run_loadPart {t : TypeId} {l : List (SV A)} {off b : Nat} {tv : TV A} {vs : List Value} {ty : TypeId} {fz : Nat × Nat} (h : partV P t l off = some tv) (hl : LIs β l vs)
    (hb : w.heap[b]? = some (.cells vs.toArray ty fz)) : ∃ v, (loadVar t ⟨b, off, none⟩).run P w = .ok v w ∧ tv.Is β v := by
  unfold partV at h
  split at h
  · rename_i k ha hs
    split at h
    · rename_i x hx
      simp at h; subst h
      obtain ⟨h1, h2⟩ := cut_is hl hx
      refine ⟨.agg ((vs.drop off).take k).toArray, ?_, ⟨_, h1, rfl⟩⟩
      unfold loadVar
      rw [Sem.run_bind, run_isAgg ha]
      simp only [Result.andThen_ok, if_true, Sem.run_bind, run_sizeT hs, Sem.run_pure]
      have hlen : ((vs.drop off).take k).length = k := by simp; omega
      have := run_loadCells_list (P := P) w ⟨b, off, none⟩ ((vs.drop off).take k) (fun j v hv => by
        rw [add_none, cell_of_row w b (off + j) _ ty fz hb]
        rw [List.getElem?_take] at hv
        split at hv
        · simpa [List.getElem?_drop] using hv
        · cases hv)
      rw [hlen] at this
      rw [this]
      rfl
    · cases h
  · rename_i ha _
    split at h
    · rename_i x hx
      simp at h; subst h
      obtain ⟨h1, h2⟩ := cut_is hl hx
      have hlt : off < vs.length := by omega
      have e : (vs.drop off).take 1 = [vs[off]] := by
        rw [List.drop_eq_getElem_cons hlt]; rfl
      rw [e] at h1
      refine ⟨vs[off], ?_, h1⟩
      unfold loadVar
      rw [Sem.run_bind, run_isAgg ha]
      simp only [Result.andThen_ok, Bool.false_eq_true, if_false]
      rw [run_load, cell_of_row w b off _ ty fz hb]
      simp [hlt]
    · cases h
  · cases h

theorem run_storePart {t : TypeId} {off b : Nat} {v : Value} {vs : List Value} {ty : TypeId} (hs : sizeT P t = some v.cells.toList.length)
    (hb : w.heap[b]? = some (.cells vs.toArray ty (0, 0))) (hl : off + v.cells.toList.length ≤ vs.length) (h1 : ∀ x ∈ v.cells.toList, x.oneCell' = true) :
    (storeVar t ⟨b, off, none⟩ v).run P w = .ok () (w.setRow b (vs.take off ++ v.cells.toList ++ vs.drop (off + v.cells.toList.length)).toArray) := by
  unfold storeVar
  rw [Sem.run_bind, run_sizeT hs]
  simp only [Result.andThen_ok, Array.length_toList]
  have := run_storeCells_at (P := P) b off ty v.cells.toList 0 vs.toArray w hb (by simpa using hl) h1
  simpa using this

end runs

section bins
variable {P : Program} {w : World} {β : Adr}

theorem arith_run {op : BinOp} {k : IntKind} {x y z : Int} (t : TypeId) (h1 : op ≠ .shl) (h2 : op ≠ .shr) (h : arith op k x y = some z) :
    (binOp op t (.int k x) (.int k y)).run P w = .ok (.int k (k.wrap z)) w := by
  cases op <;> simp_all [arith, binOp, Op.intArith, Op.intBits] <;> (subst h; rfl)

theorem compare_run {op : BinOp} {k : IntKind} {x y : Int} {z : Bool} (t : TypeId) (h : compare op x y = some z) :
    (binOp op t (.int k x) (.int k y)).run P w = .ok (.bool z) w := by
  cases op <;> simp_all [compare, binOp, Op.intCmp]

theorem shift_run {op : BinOp} {k k' : IntKind} {x : Int} {m : Nat} {s r : SV A} {lit ly : Bool} (t : TypeId) (h : isShift op = true) (hs : intOfSV s = some (lit, k, x)) (e : shiftK op s lit k x ly m = some r) :
    ∃ z, (binOp op t (.int k x) (.int k' (m : Int))).run P w = .ok (.int k z) w ∧ r.Is β [.int k z] := by
  have h0 : ¬ ((m : Int) < 0) := by omega
  unfold shiftK at e
  split at e
  · simp at e
    subst e
    exact ⟨_, by simp [binOp, Op.shift, h0], mkW_is ..⟩
  · refine ⟨x.fdiv (2 ^ min m k.bits), by simp [binOp, Op.shift, h0], ?_⟩
    split at e
    · simp at e; subst e
      split
      · exact ⟨rfl, rfl⟩
      · exact rfl
    · rename_i z
      split at e
      · rename_i z' hz'
        simp at e; subst e
        simp only [intOfSV] at hs
        split at hs
        · rename_i k1 z1 hz1
          simp at hs
          obtain ⟨_, rfl, rfl⟩ := hs
          exact (Atom.shr_ok hz' hz1).symm
        · cases hs
      · simp at e; subst e; exact rfl
    · simp at e; subst e; exact rfl
  · cases e

theorem guard_ints (op : BinOp) (t : TypeId) (x y : Operand) (k k' : IntKind) (a b : Int) : (eqGuard op t x y (.int k a) (.int k' b)).run P w = .ok () w := by
  unfold eqGuard
  split <;> simp

theorem binV_run {op : BinOp} {t : TypeId} {x y : Operand} {xv yv tv : TV A} {u v : Value} (h : binV P op t xv yv = some tv) (hx : xv.Is β u) (hy : yv.Is β v) :
    ∃ z, (eqGuard op t x y u v).run P w = .ok () w ∧ (binOp op t u v).run P w = .ok z w ∧ tv.Is β z := by
  unfold binV at h
  split at h
  · rename_i x' y'
    have hx1 := LIs.single hx
    have hy1 := LIs.single hy
    split at h
    · rename_i lx kx a ly ky b h1 h2
      have eu := intOfSV_is hx1 h1
      have ev := intOfSV_is hy1 h2
      subst eu; subst ev
      split at h
      · cases h
      · cases h
      · rename_i ho1 ho2
        split at h
        · rename_i hk
          subst hk
          split at h
          · rename_i r hr
            simp at h; subst h
            exact ⟨_, guard_ints .., arith_run t ho1 ho2 hr, LIs.of_single (mkW_is ..)⟩
          · split at h
            · rename_i r hr
              simp at h; subst h
              exact ⟨_, guard_ints .., compare_run t hr, LIs.of_single (mkB_is ..)⟩
            · cases h
        · cases h
    · split at h
      · rename_i lx a ly b h1 h2 hu
        have eu := boolSV_is hx1 h1
        have ev := boolSV_is hy1 h2
        subst eu; subst ev
        have eq : (Op.equal t (.bool a) (.bool b)).run P w = .ok (a == b) w := run_equalIn_bool' w 9999 t a b hu
        have gd : (eqGuard op t x y (.bool a) (.bool b)).run P w = .ok () w := by
          unfold eqGuard
          split <;> simp
        split at h
        · simp at h; subst h
          exact ⟨_, gd, by simp only [binOp, Sem.run_bind, eq, Result.andThen_ok, Sem.run_pure], LIs.of_single (mkB_is ..)⟩
        · obtain rfl := Option.some.inj h
          exact ⟨_, gd, by simp only [binOp, Sem.run_bind, eq, Result.andThen_ok, Sem.run_pure], LIs.of_single (mkB_is ..)⟩
        · cases h
      · cases h
  · rename_i l r
    obtain ⟨xs, hxs, rfl⟩ := hx
    obtain ⟨ys, hys, rfl⟩ := hy
    split at h
    · rename_i n lit q hb ht hq
      split at h
      · rename_i hl
        simp at h; subst h
        have := eqAgg_run (P := P) (w := w) (op := .eql) (x := x) (y := y) hb ht hq hl (flat_is hxs) (flat_is hys)
        exact ⟨.bool q, this.2, by simp [binOp, this.1], LIs.of_single (mkB_is ..)⟩
      · cases h
    · rename_i n lit q hb ht hq
      split at h
      · rename_i hl
        simp at h; subst h
        have := eqAgg_run (P := P) (w := w) (op := .neq) (x := x) (y := y) hb ht hq hl (flat_is hxs) (flat_is hys)
        exact ⟨.bool !q, this.2, by simp [binOp, this.1], LIs.of_single (mkB_is ..)⟩
      · cases h
    · cases h
  · cases h

theorem divV_run {op : BinOp} {t : TypeId} {x y : Operand} {xv yv tv : TV A} {vc : List Prop} {u v : Value} (h : divV op xv yv = some (tv, vc)) (hvc : ∀ p ∈ vc, p) (hx : xv.Is β u) (hy : yv.Is β v) :
    ∃ z, (eqGuard op t x y u v).run P w = .ok () w ∧ (binOp op t u v).run P w = .ok z w ∧ tv.Is β z := by
  unfold divV at h
  split at h
  · rename_i x' y'
    have hx1 := LIs.single hx
    have hy1 := LIs.single hy
    split at h
    · rename_i lx kx a ly ky b h1 h2
      have eu := intOfSV_is hx1 h1
      have ev := intOfSV_is hy1 h2
      subst eu; subst ev
      split at h
      · rename_i hsh
        split at h
        · split at h
          · rename_i m hm
            have hm' := natOf_eq hm
            subst hm'
            split at h
            · rename_i r hr
              simp at h; obtain ⟨rfl, rfl⟩ := h
              obtain ⟨z, k1, k2⟩ := shift_run (P := P) (w := w) (β := β) (k' := ky) t hsh h1 hr
              exact ⟨_, guard_ints .., k1, LIs.of_single k2⟩
            · cases h
          · cases h
        · split at h
          · rename_i r hr
            simp at h; obtain ⟨rfl, rfl⟩ := h
            have hb : 0 ≤ b := hvc _ (by simp)
            obtain ⟨z, k1, k2⟩ := shift_run (P := P) (w := w) (β := β) (k' := ky) t hsh h1 hr
            rw [Int.toNat_of_nonneg hb] at k1
            exact ⟨_, guard_ints .., k1, LIs.of_single k2⟩
          · cases h
      split at h
      · rename_i hk
        subst hk
        have quo : b ≠ 0 → (binOp .quo t (.int kx a) (.int kx b)).run P w = .ok (.int kx (kx.wrap (a.tdiv b))) w := fun h0 => by simp [binOp, Op.intDiv, h0]
        have rem : b ≠ 0 → (binOp .rem t (.int kx a) (.int kx b)).run P w = .ok (.int kx (a.tmod b)) w := fun h0 => by simp [binOp, Op.intDiv, h0]
        split at h
        · split at h
          · split at h
            · cases h
            · rename_i h0
              simp at h
              obtain ⟨rfl, rfl⟩ := h
              exact ⟨_, guard_ints .., quo h0, LIs.of_single (mkW_is ..)⟩
          · simp at h
            obtain ⟨rfl, rfl⟩ := h
            exact ⟨_, guard_ints .., quo (hvc _ (by simp)), LIs.of_single (mkW_is ..)⟩
        · split at h
          · split at h
            · cases h
            · rename_i h0
              simp at h
              obtain ⟨rfl, rfl⟩ := h
              exact ⟨_, guard_ints .., rem h0, LIs.of_single ⟨rfl, rfl⟩⟩
          · split at h
            · rename_i y hy
              simp at h
              obtain ⟨rfl, rfl⟩ := h
              have h3 := hvc (b ≠ 0 ∧ kx.wrap (a.tmod b) = a.tmod b) (by simp)
              refine ⟨_, guard_ints .., rem h3.1, LIs.of_single ?_⟩
              have h4 := Atom.wrap_ok hy
              rw [h3.2] at h4
              exact h4.symm
            · split at h
              · split at h
                · cases h
                · rename_i h0
                  simp at h
                  obtain ⟨rfl, rfl⟩ := h
                  exact ⟨_, guard_ints .., rem h0, LIs.of_single rfl⟩
              · simp at h
                obtain ⟨rfl, rfl⟩ := h
                exact ⟨_, guard_ints .., rem (hvc (b ≠ 0) (by simp)), LIs.of_single rfl⟩
        · cases h
      · cases h
    · cases h
  · cases h

theorem extV_run {mx : Bool} {l : List (TV A)} {tv : TV A} {vs : List Value} (h : extV mx l = some tv) (hl : TsIs β l vs) (a t : Array TypeId) (ty : TypeId) :
    ∃ z, (match mx with | true => Builtin.max_ a ty vs.toArray | false => Builtin.min_ t ty vs.toArray : Sem Value).run P w = .ok z w ∧ tv.Is β z := by
  unfold extV at h
  split at h
  · rename_i x y
    obtain ⟨u, r, hu, ⟨v, r', hv, e, rfl⟩, rfl⟩ := hl
    obtain rfl : r' = [] := e
    split at h
    · rename_i lx kx a' ly ky b h1 h2
      simp at h; subst h
      have eu := intOfSV_is (LIs.single hu) h1
      have ev := intOfSV_is (LIs.single hv) h2
      subst eu; subst ev
      cases mx
      · refine ⟨.int kx (if b < a' then b else a'), by simp [Builtin.min_, Builtin.min2], LIs.of_single ?_⟩
        simp only [Bool.false_eq_true, if_false]
        split
        · exact ⟨rfl, rfl⟩
        · exact rfl
      · refine ⟨.int kx (if b > a' then b else a'), by simp [Builtin.max_, Builtin.max2], LIs.of_single ?_⟩
        simp only [if_true]
        split
        · exact ⟨rfl, rfl⟩
        · exact rfl
    · cases h
  · cases h

theorem unV_run {op : UnOp} {xv tv : TV A} {u : Value} (h : unV op xv = some tv) (hx : xv.Is β u) : ∃ z, (Op.unary op u).run P w = .ok z w ∧ tv.Is β z := by
  unfold unV at h
  split at h
  · rename_i b
    obtain ⟨e, _⟩ := LIs.single hx
    simp at e; subst e
    split at h
    · simp at h; subst h
      exact ⟨.bool !b, by simp [Op.unary], LIs.of_single ⟨rfl, rfl⟩⟩
    · cases h
  · rename_i b
    have e := LIs.single hx
    simp [SV.Is] at e; subst e
    split at h
    · simp at h; subst h
      exact ⟨.bool !b, by simp [Op.unary], LIs.of_single rfl⟩
    · cases h
  · rename_i s _ _
    split at h
    · rename_i l k a hs
      have e := intOfSV_is (LIs.single hx) hs
      subst e
      split at h
      · obtain rfl := Option.some.inj h
        exact ⟨_, by simp only [Op.unary, Op.intArith, Sem.run_pure], LIs.of_single (mkW_is ..)⟩
      · obtain rfl := Option.some.inj h
        exact ⟨_, by simp only [Op.unary, Op.intBits, Sem.run_pure], LIs.of_single (mkW_is ..)⟩
      · cases h
    · cases h
  · cases h

theorem numOf_is {t : TV A} {v : Value} {l : Bool} {z : Int} (h : t.Is β v) (e : numOf t = some (l, z)) : ∃ k, v = .int k z := by
  unfold numOf at e
  split at e
  · split at e
    · rename_i l' k z' hs
      simp at e
      obtain ⟨_, rfl⟩ := e
      exact ⟨k, intOfSV_is (LIs.single h) hs⟩
    · cases e
  · cases e

theorem Addr.add_add (a : Addr) (i j : Nat) : (a.add i).add j = a.add (i + j) := by
  unfold Addr.add
  by_cases hi : i = 0
  · subst hi; simp
  · by_cases hj : j = 0
    · subst hj; simp [hi]
    · simp [hi, hj, Nat.add_assoc]

theorem indexAddrV_run {t : TypeId} {xv iv tv : TV A} {vc : List Prop} {u v : Value} (h : indexAddrV P t xv iv = some (tv, vc)) (hvc : ∀ p ∈ vc, p) (hx : xv.Is β u) (hi : iv.Is β v) :
    ∃ z, (Instr.indexAt t u v).run P w = .ok z w ∧ tv.Is β z := by
  unfold indexAddrV at h
  split at h
  · rename_i lit z hz
    obtain ⟨kk, rfl⟩ := numOf_is hi hz
    split at h
    · rename_i len e i off hu
      obtain ⟨b, hb, ex⟩ := LIs.single (hx : LIs β _ [u])
      simp at ex; subst ex
      split at h
      · rename_i sz hs
        split at h
        · split at h
          · rename_i k hk
            have hzk := natOf_eq hk
            subst hzk
            split at h
            · rename_i hlt
              simp at h; obtain ⟨rfl, rfl⟩ := h
              have h1 : (0 : Int) ≤ k ∧ (k : Int) < len := by omega
              exact ⟨.pointer (some ⟨b, off + k * sz, none⟩), by simp [Instr.indexAt, run_underlying hu, asIntOf, Instr.sureAddr, h1, run_sizeT hs, add_none, hlt], LIs.of_single ⟨b, hb, rfl⟩⟩
            · cases h
          · cases h
        · split at h
          · rename_i hs1
            simp at h; obtain ⟨rfl, rfl⟩ := h
            subst hs1
            have h1 := hvc (0 ≤ z ∧ z < len) (by simp)
            exact ⟨.pointer (some ⟨b, off + z.toNat, none⟩), by simp [Instr.indexAt, run_underlying hu, asIntOf, Instr.sureAddr, h1, run_sizeT hs, add_none], LIs.of_single ⟨by omega, b, hb, rfl⟩⟩
          · cases h
      · cases h
    · rename_i e i off len cap hu
      obtain ⟨b, hb, ex⟩ := LIs.single (hx : LIs β _ [u])
      simp at ex; subst ex
      split at h
      · rename_i sz hs
        split at h
        · split at h
          · rename_i k hk
            have hzk := natOf_eq hk
            subst hzk
            split at h
            · rename_i hlt
              simp at h; obtain ⟨rfl, rfl⟩ := h
              have h1 : (0 : Int) ≤ k ∧ (k : Int) < len := by omega
              exact ⟨.pointer (some ⟨b, off + k * sz, none⟩), by simp [Instr.indexAt, run_underlying hu, asIntOf, h1, run_sizeT hs, add_none, hlt], LIs.of_single ⟨b, hb, rfl⟩⟩
            · cases h
          · cases h
        · split at h
          · rename_i hs1
            simp at h; obtain ⟨rfl, rfl⟩ := h
            subst hs1
            have h1 := hvc (0 ≤ z ∧ z < len) (by simp)
            exact ⟨.pointer (some ⟨b, off + z.toNat, none⟩), by simp [Instr.indexAt, run_underlying hu, asIntOf, h1, run_sizeT hs, add_none], LIs.of_single ⟨by omega, b, hb, rfl⟩⟩
          · cases h
      · cases h
    · rename_i e a f i len cap hu
      split at h
      · rename_i sz hs
        simp at h; obtain ⟨rfl, rfl⟩ := h
        have h1 := hvc (0 ≤ z ∧ z < len) (by simp)
        have ex := LIs.single (hx : LIs β _ [u])
        cases a with
        | none => obtain ⟨h2, _, _⟩ := ex; omega
        | some b =>
          obtain ⟨p, hp, hnc, e1⟩ := ex
          simp at e1; subst e1
          have := hp (by omega)
          subst this
          exact ⟨.pointer (some (b.add (timesN z.toNat sz + i))), by simp [Instr.indexAt, run_underlying hu, asIntOf, h1, run_sizeT hs, Addr.add_add, timesN_eq, Nat.add_comm], LIs.of_single ⟨b, rfl, rfl⟩⟩
      · cases h
    · rename_i e f i len sz' hu
      split at h
      · rename_i sz hs
        split at h
        · rename_i he
          simp at h; obtain ⟨rfl, rfl⟩ := h
          subst he
          have h1 := hvc (0 ≤ z ∧ z < len) (by simp)
          have ex : knownIs β f i len sz [u] := LIs.single (hx : LIs β _ [u])
          rcases ex with ⟨h2, _⟩ | ⟨p, cp, e1, hnc, hk⟩
          · omega
          · simp at e1; subst e1
            refine ⟨.pointer (some (p.add (timesN z.toNat sz))), by simp [Instr.indexAt, run_underlying hu, asIntOf, h1, run_sizeT hs, timesN_eq], LIs.of_single ⟨_, rfl, fun j hj => ?_⟩⟩
            have hlt : z.toNat * sz + j < len * sz := by
              have : (z.toNat + 1) * sz ≤ len * sz := Nat.mul_le_mul_right _ (by omega)
              rw [Nat.succ_mul] at this
              omega
            obtain ⟨v, k1, k2⟩ := hk (timesN z.toNat sz + j) (by rw [timesN_eq]; exact hlt)
            refine ⟨v, by rw [Addr.add_add]; exact k1, ?_⟩
            rw [show timesN z.toNat sz + i + j = i + (timesN z.toNat sz + j) by omega]
            exact k2
        · cases h
      · cases h
    · cases h
  · cases h

theorem rowGet_is {l : List (SV A)} {vs : List Value} {n z : Nat} {y : SV A} (h : rowGet l n z = some y) (hl : LIs β l vs) (hz : z < n) : ∃ v, vs[z]? = some v ∧ y.Is β [v] := by
  unfold rowGet at h
  split at h
  · rename_i row hr
    split at h
    · rename_i hs
      split at h
      · rename_i a ha
        simp at h; subst h
        obtain ⟨v, h1, h2⟩ := Atom.get_ok ha (by omega)
        rw [rowA_is hl hr]
        exact ⟨v, h1, h2.symm⟩
      · cases h
    · cases h
  · cases h

theorem run_partAt {e : TypeId} {vs : List Value} {i : Nat} {v : Value} (ha : isAggB P e = some false) (hv : vs[i]? = some v) : (part e vs.toArray i).run P w = .ok v w := by
  unfold part
  rw [Sem.run_bind, run_isAgg ha]
  simp [hv]

theorem indexV_run {t : TypeId} {xv iv tv : TV A} {vc : List Prop} {u v : Value} (h : indexV P t xv iv = some (tv, vc)) (hvc : ∀ p ∈ vc, p) (hx : xv.Is β u) (hi : iv.Is β v) :
    ∃ z, (Instr.index t u v).run P w = .ok z w ∧ tv.Is β z := by
  unfold indexV at h
  split at h
  · rename_i lit z hz
    obtain ⟨kk, rfl⟩ := numOf_is hi hz
    split at h
    · rename_i len e l hu
      obtain ⟨vs, hvs, rfl⟩ := (hx : VIs β true l u)
      split at h
      · rename_i sz hs
        split at h
        · split at h
          · rename_i k hk
            have hzk := natOf_eq hk
            subst hzk
            split at h
            · rename_i hlt
              split at h
              · rename_i y hy
                simp at h; obtain ⟨rfl, rfl⟩ := h
                obtain ⟨x, hx1, hx2⟩ := run_partV (P := P) (w := w) hy hvs
                have h1 : (0 : Int) ≤ k ∧ (k : Int) < len := by omega
                exact ⟨x, by simp [Instr.index, run_underlying hu, asIntOf, h1, run_sizeT hs, hx1, hlt], hx2⟩
              · cases h
            · cases h
          · cases h
        · split at h
          · rename_i y ha hg
            split at h
            · rename_i hs1
              subst hs1
              simp at h; obtain ⟨rfl, rfl⟩ := h
              have h1 := hvc (0 ≤ z ∧ z < len) (by simp)
              obtain ⟨x, hx1, hx2⟩ := rowGet_is hg hvs (by omega)
              exact ⟨x, by simp [Instr.index, run_underlying hu, asIntOf, h1, run_sizeT hs, run_partAt ha hx1], LIs.of_single hx2⟩
            · cases h
          · cases h
      · cases h
    · rename_i s hu
      split at h
      · split at h
        · rename_i k hk
          have hzk := natOf_eq hk
          subst hzk
          split at h
          · rename_i b hb
            simp at h; obtain ⟨rfl, rfl⟩ := h
            have ex := LIs.single (hx : LIs β _ [u])
            obtain ⟨ex, _⟩ := ex
            simp at ex; subst ex
            rw [nth_eq] at hb
            have hb' : s[k]? = some b := by
              obtain ⟨hlt, hb⟩ := List.getElem?_eq_some_iff.1 hb
              have hlt' : k < s.size := by simpa using hlt
              rw [getElem?_pos s k hlt']
              congr 1
            exact ⟨.int .u8 b.toNat, by simp [Instr.index, run_underlying hu, asIntOf, hb'], LIs.of_single ⟨rfl, rfl⟩⟩
          · cases h
        · cases h
      · cases h
    · cases h
  · cases h

theorem extCells_is {old : Addr → Option Value} {b : Addr} {f : Nat → A} : ∀ (n i : Nat), (∀ j, j < n → ∃ v, old (b.add (i + j)) = some v ∧ Atom.cells (f (i + j)) = [v]) →
    ∃ vs, LIs β (extCells f i n) vs ∧ vs.length = n ∧ ∀ j v, vs[j]? = some v → old (b.add (i + j)) = some v
  | 0, i, _ => ⟨[], rfl, rfl, fun j v h => by simp at h⟩
  | n + 1, i, h => by
    obtain ⟨v, h1, h2⟩ := h 0 (by omega)
    obtain ⟨vs, k1, k2, k3⟩ := extCells_is n (i + 1) (fun j hj => by
      have := h (j + 1) (by omega)
      rw [show i + 1 + j = i + (j + 1) by omega]
      exact this)
    refine ⟨v :: vs, ⟨[v], vs, h2.symm, k1, rfl⟩, by simp [k2], fun j u hj => ?_⟩
    cases j with
    | zero => simp at hj; subst hj; exact h1
    | succ j =>
      have := k3 j u (by simpa using hj)
      rw [show i + 1 + j = i + (j + 1) by omega] at this
      exact this

theorem knownCells_is {b : Addr} {f : Nat → A} : ∀ (n i : Nat), (∀ j, j < n → ∃ v, β.kn (b.add j) v ∧ Atom.cells (f (i + j)) = [v]) →
    ∃ vs, LIs β (extCells f i n) vs ∧ vs.length = n ∧ ∀ (j : Nat) v, vs[j]? = some v → β.kn (b.add j) v
  | 0, i, _ => ⟨[], rfl, rfl, fun j v h => by simp at h⟩
  | n + 1, i, h => by
    obtain ⟨v, h1, h2⟩ := h 0 (by omega)
    obtain ⟨vs, k1, k2, k3⟩ := knownCells_is (b := b.add 1) n (i + 1) (fun j hj => by
      obtain ⟨u, g1, g2⟩ := h (j + 1) (by omega)
      refine ⟨u, ?_, ?_⟩
      · rw [Addr.add_add, Nat.add_comm 1 j]; exact g1
      · rw [show i + 1 + j = i + (j + 1) by omega]; exact g2)
    refine ⟨v :: vs, ⟨[v], vs, by rw [Nat.add_zero] at h2; exact h2.symm, k1, rfl⟩, by simp [k2], fun j u hj => ?_⟩
    cases j with
    | zero => simp at hj; subst hj; exact h1
    | succ j =>
      have := k3 j u (by simpa using hj)
      rw [Addr.add_add, Nat.add_comm 1 j] at this
      exact this

theorem loadV_run {c : Cfg A} {X : Nat → Prop} {W0 W : World} {m : Mem A} (hm : MRel c X W0 β m W) {t : TypeId} {xv tv : TV A} {vc : List Prop} {u : Value} (h : loadV c m t xv = some (tv, vc)) (hvc : ∀ p ∈ vc, p) (hx : xv.Is β u) :
    ∃ z, (Instr.loadAt t u).run c.P W = .ok z W ∧ tv.Is β z := by
  unfold loadV at h
  split at h
  · rename_i i off
    split at h
    · rename_i blk hb
      split at h
      · rename_i v hv
        simp at h; obtain ⟨rfl, rfl⟩ := h
        obtain ⟨b, hb1, e⟩ := LIs.single (hx : LIs β _ [u])
        simp at e; subst e
        obtain ⟨b', vs, fz, hb2, hvs, hheap, _⟩ := hm.mem' hb hb1
        have : b' = b := by rw [hb1] at hb2; exact (Option.some.inj hb2).symm
        subst this
        obtain ⟨x, hu1, hu2⟩ := run_loadPart (P := c.P) (w := W) hv hvs hheap
        exact ⟨x, by simp [Instr.loadAt, Instr.sureAddr, hu1], hu2⟩
      · cases h
    · cases h
  · rename_i i off n z
    split at h
    · rename_i blk hb
      split at h
      · rename_i l ha hs hc
        split at h
        · rename_i y hy
          simp at h; obtain ⟨rfl, rfl⟩ := h
          obtain ⟨hz, b, hb1, e⟩ := LIs.single (hx : LIs β _ [u])
          simp at e; subst e
          obtain ⟨b', vs, fz, hb2, hvs, hheap, _⟩ := hm.mem' hb hb1
          have : b' = b := by rw [hb1] at hb2; exact (Option.some.inj hb2).symm
          subst this
          obtain ⟨h1, h2⟩ := cut_is hvs hc
          obtain ⟨v, hv1, hv2⟩ := rowGet_is hy h1 hz
          rw [List.getElem?_take, if_pos hz, List.getElem?_drop] at hv1
          refine ⟨v, ?_, LIs.of_single hv2⟩
          simp only [Instr.loadAt, Instr.sureAddr, Sem.run_bind, Sem.run_pure, Result.andThen_ok]
          unfold loadVar
          rw [Sem.run_bind, run_isAgg ha]
          simp only [Result.andThen_ok, Bool.false_eq_true, if_false]
          rw [run_load, cell_of_row W b' (off + z) _ _ fz hheap]
          simp [hv1]
        · cases h
      · cases h
    · cases h
  · rename_i a f i
    obtain ⟨b, rfl, e⟩ := LIs.single (hx : LIs β _ [u])
    simp at e; subst e
    split at h
    · rename_i n ha hs
      simp at h; obtain ⟨rfl, rfl⟩ := h
      have h1 : Reads c.old (some b) f i n := hvc _ (by simp)
      obtain ⟨vs, k1, k2, k3⟩ := extCells_is (β := β) n i (h1 b rfl)
      refine ⟨.agg vs.toArray, ?_, ⟨vs, k1, rfl⟩⟩
      simp only [Instr.loadAt, Instr.sureAddr, Sem.run_bind, Sem.run_pure, Result.andThen_ok]
      unfold loadVar
      rw [Sem.run_bind, run_isAgg ha]
      simp only [Result.andThen_ok, if_true, Sem.run_bind, run_sizeT hs, Sem.run_pure]
      have := run_loadCells_list (P := c.P) W (b.add i) vs (fun j v hv => by
        rw [Addr.add_add]
        exact hm.cell (k3 j v hv))
      rw [k2] at this
      rw [this]
      rfl
    · rename_i ha hs
      simp at h; obtain ⟨rfl, rfl⟩ := h
      have h1 : Reads c.old (some b) f i 1 := hvc _ (by simp)
      obtain ⟨v, k1, k2⟩ := h1 b rfl 0 (by omega)
      refine ⟨v, ?_, LIs.of_single k2.symm⟩
      simp only [Instr.loadAt, Instr.sureAddr, Sem.run_bind, Sem.run_pure, Result.andThen_ok]
      unfold loadVar
      rw [Sem.run_bind, run_isAgg ha]
      simp only [Result.andThen_ok, Bool.false_eq_true, if_false]
      have hcell := hm.cell k1
      rw [Nat.add_zero] at hcell
      rw [run_load, hcell]
    · cases h
  · rename_i f i k
    obtain ⟨p, e, hk⟩ := LIs.single (hx : LIs β _ [u])
    simp at e; subst e
    split at h
    · rename_i n ha hs
      split at h
      · rename_i hnk
        simp at h; obtain ⟨rfl, rfl⟩ := h
        obtain ⟨vs, k1, k2, k3⟩ := knownCells_is (β := β) (b := p) (f := f) n i (fun j hj => hk j (by omega))
        refine ⟨.agg vs.toArray, ?_, ⟨vs, k1, rfl⟩⟩
        simp only [Instr.loadAt, Instr.sureAddr, Sem.run_bind, Sem.run_pure, Result.andThen_ok]
        unfold loadVar
        rw [Sem.run_bind, run_isAgg ha]
        simp only [Result.andThen_ok, if_true, Sem.run_bind, run_sizeT hs, Sem.run_pure]
        have := run_loadCells_list (P := c.P) W p vs (fun j v hv => (hm.kn _ _ (k3 j v hv)).1)
        rw [k2] at this
        rw [this]
        rfl
      · cases h
    · rename_i ha hs
      split at h
      · rename_i hnk
        simp at h; obtain ⟨rfl, rfl⟩ := h
        obtain ⟨v, k1, k2⟩ := hk 0 (by omega)
        refine ⟨v, ?_, LIs.of_single k2.symm⟩
        simp only [Instr.loadAt, Instr.sureAddr, Sem.run_bind, Sem.run_pure, Result.andThen_ok]
        unfold loadVar
        rw [Sem.run_bind, run_isAgg ha]
        simp only [Result.andThen_ok, Bool.false_eq_true, if_false]
        have hcell := (hm.kn _ _ k1).1
        have e0 : p.add 0 = p := by simp [Addr.add]
        rw [e0] at hcell
        rw [run_load, hcell]
      · cases h
    · cases h
  · cases h

theorem lenV_run {t : TypeId} {xv tv : TV A} {u : Value} (h : lenV P t xv = some tv) (hx : xv.Is β u) {ats : Array TypeId} {ty : TypeId} (hat : ats[0]? = some t) :
    ∃ z, (Builtin.len_ ats ty #[u]).run P w = .ok z w ∧ tv.Is β z := by
  unfold lenV at h
  split at h
  · rename_i e i off n cp hu
    simp at h; subst h
    obtain ⟨b, hb, ev⟩ := LIs.single (hx : LIs β _ [u])
    simp at ev; subst ev
    exact ⟨.int .i64 n, by simp [Builtin.len_, hat, run_underlying hu, goInt], LIs.of_single ⟨rfl, rfl⟩⟩
  · rename_i e n cp hu
    simp at h; subst h
    obtain ⟨ev, _⟩ := LIs.single (hx : LIs β _ [u])
    simp at ev; subst ev
    exact ⟨.int .i64 n, by simp [Builtin.len_, hat, run_underlying hu, goInt], LIs.of_single ⟨rfl, rfl⟩⟩
  · rename_i e a f i n cp hu
    simp at h; subst h
    obtain ⟨p, ev⟩ := (LIs.single (hx : LIs β _ [u])).extern
    simp at ev; subst ev
    exact ⟨.int .i64 n, by simp [Builtin.len_, hat, run_underlying hu, goInt], LIs.of_single rfl⟩
  · rename_i e f i n sz hu
    simp at h; subst h
    obtain ⟨p, cp, ev⟩ := (LIs.single (hx : LIs β _ [u]) : knownIs β f i n sz [u]).single
    simp at ev; subst ev
    exact ⟨.int .i64 n, by simp [Builtin.len_, hat, run_underlying hu, goInt], LIs.of_single rfl⟩
  · rename_i e i v off d n hu
    simp at h; subst h
    obtain ⟨p, cp, ev⟩ := (LIs.single (hx : LIs β _ [u]) : growsIs off d n [u] (β.gs i v)).single
    simp at ev; subst ev
    exact ⟨.int .i64 n, by simp [Builtin.len_, hat, run_underlying hu, goInt], LIs.of_single rfl⟩
  · rename_i s hu
    simp at h; subst h
    obtain ⟨ev, _⟩ := LIs.single (hx : LIs β _ [u])
    simp at ev; subst ev
    exact ⟨.int .i64 s.size, by simp [Builtin.len_, hat, run_underlying hu, goInt], LIs.of_single ⟨rfl, rfl⟩⟩
  · cases h
end bins

section fills
variable {P : Program} {w : World} {β : Adr}

theorem foldl_set : ∀ (vs : List Value) (k off : Nat) (cs : Array Value), off + k + vs.length ≤ cs.size →
    ((vs.zipIdx k).foldl (fun (cs : Array Value) (x : Value × Nat) => cs.setIfInBounds (off + x.2) x.1) cs).toList = cs.toList.take (off + k) ++ vs ++ cs.toList.drop (off + k + vs.length)
  | [], k, off, cs, _ => by simp
  | v :: vs, k, off, cs, h => by
    simp only [List.zipIdx_cons, List.foldl_cons]
    rw [foldl_set vs (k + 1) off _ (by simp at h ⊢; omega)]
    have hk : off + k < cs.toList.length := by simp at h ⊢; omega
    simp only [Array.toList_setIfInBounds]
    rw [show off + (k + 1) = (off + k) + 1 by omega]
    rw [List.take_succ_eq_append_getElem (by simpa using hk)]
    rw [List.take_set_of_le (Nat.le_refl _)]
    rw [List.drop_set_of_lt (by omega)]
    simp
    omega

theorem fillV_run {place : Nat → Option (Nat × Nat)} {c : Cfg A} {X : Nat → Prop} {W0 : World} {st : St A} {a : Act} (ht : TRel β st.t a) (hm : MRel c X W0 β st.m w) :
    ∀ {parts : List (Nat × Operand)} {cells l : List (SV A)} {vs : List Value}, fillV place c st cells parts = some l → LIs β cells vs →
      ∃ us, Instr.fill place vs.toArray (parts.map fun x => (x.1, a.eval x.2)) = some us.toArray ∧ LIs β l us
  | [], cells, l, vs, h, hv => by
    simp [fillV] at h; subst h
    exact ⟨vs, by simp [Instr.fill], hv⟩
  | (i, x) :: rest, cells, l, vs, h, hv => by
    simp only [fillV] at h
    split at h
    · rename_i off size tv hp hx
      split at h
      · rename_i x' hc
        split at h
        · rename_i hs
          split at h
          · rename_i cells' ho
            have hx' := cellsT_is (evO_is ht hm hx) hc
            have hlen := hx'.len
            obtain ⟨h1, h2⟩ := over_is hv hx' ho
            obtain ⟨us, hu1, hu2⟩ := fillV_run ht hm h h1
            refine ⟨us, ?_, hu2⟩
            rw [← hu1]
            simp only [List.map_cons, Instr.fill, hp]
            have hsz : (a.eval x).cells.size = size := by rw [← Array.length_toList, hlen, hs]
            rw [if_neg]
            · congr 1
              apply Array.toList_inj.1
              rw [← Array.foldl_toList, Array.toList_zipIdx]
              have := foldl_set (a.eval x).cells.toList 0 off vs.toArray (by simpa using h2)
              simpa using this
            · have h3 : ¬ (off + (a.eval x).cells.size > vs.toArray.size) := by simp at h2 ⊢; omega
              simp [hsz] at h3 ⊢
              omega
          · cases h
        · cases h
      · cases h
    · cases h

theorem placesOf_eq {fs : List Field} {ps : List (Nat × Nat)} (h : placesOf P fs = some ps) :
    ∀ w : World, (fs.mapM (fun f => do pure (f.offset, ← sizeOf f.type) : Field → Sem (Nat × Nat))).run P w = .ok ps w := by
  induction fs generalizing ps with
  | nil => intro w; simp [placesOf] at h; subst h; simp
  | cons f r ih =>
    intro w
    simp only [placesOf] at h
    split at h
    · rename_i n l hn hl
      simp at h; subst h
      have ih' := ih hl w
      simp only [List.mapM_cons, Sem.run_bind, run_sizeT hn, Result.andThen_ok, Sem.run_pure]
      rw [ih']
      rfl
    · cases h

theorem bndO_run {c : Cfg A} {X : Nat → Prop} {W0 : World} {st : St A} {a : Act} (ht : TRel β st.t a) (hm : MRel c X W0 β st.m w) {y d k : Nat} {x : Operand} {code : BoundsCode}
    (h : bndO c st y d (some x) = some k) : (Instr.sliceBound (a.eval x) y code).run P w = .ok k w := by
  simp only [bndO] at h
  split at h
  · rename_i tv hx
    split at h
    · rename_i z hz
      split at h
      · rename_i k' hk
        split at h
        · rename_i hle
          simp at h; subst h
          obtain ⟨kk, e⟩ := litOf_is (evO_is ht hm hx) hz
          have := natOf_eq hk
          subst this
          have h1 : (0 : Int) ≤ k' ∧ (k' : Int) ≤ y := by omega
          simp only [Instr.sliceBound, e, asIntOf, Sem.run_bind, Sem.run_pure, Result.andThen_ok, h1, and_self, if_true, Int.toNat_natCast]
        · cases h
      · cases h
    · cases h
  · cases h

theorem bounds_run {c : Cfg A} {X : Nat → Prop} {W0 : World} {st : St A} {a : Act} (ht : TRel β st.t a) (hm : MRel c X W0 β st.m w) {sl : Bool} {len cap m h l : Nat} {lo hi mx : Option Operand}
    (hx : (mx.isSome && hi.isNone) = false) (h1 : bndO c st cap cap mx = some m) (h2 : bndO c st m len hi = some h) (h3 : bndO c st h 0 lo = some l) :
    (Instr.sliceBounds sl len cap (lo.map a.eval) (hi.map a.eval) (mx.map a.eval)).run P w = .ok (l, h, m) w := by
  have d0 : ∀ {y d k : Nat}, bndO c st y d none = some k → d = k := by intro y d k e; simpa [bndO] using e
  cases mx with
  | none =>
    have := d0 h1; subst this
    cases hi with
    | none =>
      have := d0 h2; subst this
      cases lo with
      | none => have := d0 h3; subst this; simp [Instr.sliceBounds]
      | some x => simp [Instr.sliceBounds, bndO_run (P := P) ht hm h3]
    | some y =>
      cases lo with
      | none => have := d0 h3; subst this; simp [Instr.sliceBounds, bndO_run (P := P) ht hm h2]
      | some x => simp [Instr.sliceBounds, bndO_run (P := P) ht hm h2, bndO_run (P := P) ht hm h3]
  | some z =>
    cases hi with
    | none => simp at hx
    | some y =>
      cases lo with
      | none => have := d0 h3; subst this; simp [Instr.sliceBounds, bndO_run (P := P) ht hm h1, bndO_run (P := P) ht hm h2]
      | some x => simp [Instr.sliceBounds, bndO_run (P := P) ht hm h1, bndO_run (P := P) ht hm h2, bndO_run (P := P) ht hm h3]

theorem capsOf_is : ∀ {l : List (TV A)} {cs : List (Nat × Nat)} {vs : List Value}, capsOf l = some cs → TsIs β l vs → capsIs β cs vs
  | [], cs, vs, h, e => by simp [capsOf] at h; subst h; exact e
  | t :: l, cs, vs, h, ⟨v, r, h1, h2, e⟩ => by
    subst e
    simp only [capsOf] at h
    split at h
    · rename_i ad l' ha hl
      simp at h; subst h
      obtain ⟨i, off⟩ := ad
      obtain ⟨b, hb, rfl⟩ := addrOf_is h1 ha
      exact ⟨b, r, hb, capsOf_is hl h2, rfl⟩
    · cases h
end fills

theorem sliceV_run {c : Cfg A} {X : Nat → Prop} {W0 W : World} {β : Adr} {st : St A} {a : Act} (ht : TRel β st.t a) (hm : MRel c X W0 β st.m W) {i off len cap : Nat} {e : TypeId} {lo hi mx : Option Operand} {tv : TV A} {vc : List Prop}
    (h : sliceV c st i off len cap e lo hi mx = some (tv, vc)) : ∃ l hh m sz, vc = [] ∧ tv = .val false [.s i (if m = l then off else off + l * sz) (hh - l) (m - l)] ∧ sizeT c.P e = some sz ∧
      ∀ sl, (Instr.sliceBounds sl len cap (lo.map a.eval) (hi.map a.eval) (mx.map a.eval)).run c.P W = .ok (l, hh, m) W := by
  unfold sliceV at h
  split at h
  · cases h
  · rename_i hx
    split at h
    · rename_i m sz h1 hs
      split at h
      · rename_i hh h2
        split at h
        · rename_i l h3
          simp at h
          obtain ⟨rfl, rfl⟩ := h
          exact ⟨l, hh, m, sz, rfl, rfl, hs, fun sl => bounds_run ht hm (by revert hx; cases (mx.isSome && hi.isNone) <;> simp) h1 h2 h3⟩
        · cases h
      · cases h
    · cases h

theorem bndE_run {c : Cfg A} {X : Nat → Prop} {W0 W : World} {β : Adr} {st : St A} {a : Act} (ht : TRel β st.t a) (hm : MRel c X W0 β st.m W) {y d k : Nat} {x : Operand} {code : BoundsCode} {vc : List Prop}
    (h : bndE c st y d (some x) = some (k, vc)) (hvc : ∀ p ∈ vc, p) : (Instr.sliceBound (a.eval x) y code).run c.P W = .ok k W ∧ k ≤ y := by
  simp only [bndE] at h
  split at h
  · rename_i tv hx
    split at h
    · rename_i l z hz
      simp at h; obtain ⟨rfl, rfl⟩ := h
      obtain ⟨kk, e⟩ := numOf_is (evO_is ht hm hx) hz
      have h1 : 0 ≤ z ∧ z ≤ y := hvc _ (by simp)
      exact ⟨by simp only [Instr.sliceBound, e, asIntOf, Sem.run_bind, Sem.run_pure, Result.andThen_ok, h1, and_self, if_true], by omega⟩
    · cases h
  · cases h

theorem sliceE_run {c : Cfg A} {X : Nat → Prop} {W0 W : World} {β : Adr} {st : St A} {a : Act} (ht : TRel β st.t a) (hm : MRel c X W0 β st.m W) {ad : Option Addr} {f : Nat → A} {i len cap : Nat} {e : TypeId} {lo hi mx : Option Operand} {tv : TV A} {vc : List Prop}
    (h : sliceE c st ad f i len cap e lo hi mx = some (tv, vc)) (hvc : ∀ p ∈ vc, p) : ∃ l hh m sz, tv = .val false [.e ad f (timesN l sz + i) (hh - l) (m - l)] ∧ sizeT c.P e = some sz ∧ m ≤ cap ∧ l ≤ hh ∧ (len ≤ cap → hh ≤ m) ∧
      ∀ sl, (Instr.sliceBounds sl len cap (lo.map a.eval) (hi.map a.eval) (mx.map a.eval)).run c.P W = .ok (l, hh, m) W := by
  unfold sliceE at h
  split at h
  · cases h
  · rename_i hx
    split at h
    · rename_i m v1 sz h1 hs
      split at h
      · rename_i hh v2 h2
        split at h
        · rename_i l v3 h3
          simp at h
          obtain ⟨rfl, rfl⟩ := h
          have hst : startN lo i l sz = timesN l sz + i := by
            cases lo with
            | none => simp [bndE] at h3; obtain ⟨rfl, _⟩ := h3; simp [startN, timesN_eq]
            | some _ => rfl
          rw [hst]
          have d0 : ∀ {y d k : Nat} {v : List Prop}, bndE c st y d none = some (k, v) → d = k := by intro y d k v e; simp [bndE] at e; exact e.1
          have c1 : ∀ p ∈ v1, p := fun p hp => hvc p (by simp [hp])
          have c2 : ∀ p ∈ v2, p := fun p hp => hvc p (by simp [hp])
          have c3 : ∀ p ∈ v3, p := fun p hp => hvc p (by simp [hp])
          refine ⟨l, hh, m, sz, rfl, hs, ?_⟩
          cases mx with
          | none =>
            have := d0 h1; subst this
            cases hi with
            | none =>
              have := d0 h2; subst this
              cases lo with
              | none => have := d0 h3; subst this; exact ⟨Nat.le_refl _, Nat.zero_le _, fun h => h, fun sl => by simp [Instr.sliceBounds]⟩
              | some x => exact ⟨Nat.le_refl _, (bndE_run (code := .sliceB) ht hm h3 c3).2, fun h => h, fun sl => by simp [Instr.sliceBounds, (bndE_run ht hm h3 c3).1]⟩
            | some y =>
              have e2 := (bndE_run (code := .sliceB) ht hm h2 c2).2
              cases lo with
              | none => have := d0 h3; subst this; exact ⟨Nat.le_refl _, Nat.zero_le _, fun _ => e2, fun sl => by simp [Instr.sliceBounds, (bndE_run ht hm h2 c2).1]⟩
              | some x => exact ⟨Nat.le_refl _, (bndE_run (code := .sliceB) ht hm h3 c3).2, fun _ => e2, fun sl => by simp [Instr.sliceBounds, (bndE_run ht hm h2 c2).1, (bndE_run ht hm h3 c3).1]⟩
          | some z =>
            have e1 := (bndE_run (code := .sliceB) ht hm h1 c1).2
            cases hi with
            | none => simp at hx
            | some y =>
              have e2 := (bndE_run (code := .sliceB) ht hm h2 c2).2
              cases lo with
              | none => have := d0 h3; subst this; exact ⟨e1, Nat.zero_le _, fun _ => e2, fun sl => by simp [Instr.sliceBounds, (bndE_run ht hm h1 c1).1, (bndE_run ht hm h2 c2).1]⟩
              | some x => exact ⟨e1, (bndE_run (code := .sliceB) ht hm h3 c3).2, fun _ => e2, fun sl => by simp [Instr.sliceBounds, (bndE_run ht hm h1 c1).1, (bndE_run ht hm h2 c2).1, (bndE_run ht hm h3 c3).1]⟩
        · cases h
      · cases h
    · cases h

theorem bndE_most {c : Cfg A} {X : Nat → Prop} {W0 W : World} {β : Adr} {st : St A} {a : Act} (ht : TRel β st.t a) (hm : MRel c X W0 β st.m W) {y y' d k : Nat} {x : Operand} {code : BoundsCode} {vc : List Prop}
    (h : bndE c st y d (some x) = some (k, vc)) (hvc : ∀ p ∈ vc, p) (hy : y ≤ y') : (Instr.sliceBound (a.eval x) y' code).run c.P W = .ok k W ∧ k ≤ y := by
  simp only [bndE] at h
  split at h
  · rename_i tv hx
    split at h
    · rename_i l z hz
      simp at h; obtain ⟨rfl, rfl⟩ := h
      obtain ⟨kk, e⟩ := numOf_is (evO_is ht hm hx) hz
      have h1 : 0 ≤ z ∧ z ≤ y := hvc _ (by simp)
      have h2 : 0 ≤ z ∧ z ≤ y' := by omega
      exact ⟨by simp only [Instr.sliceBound, e, asIntOf, Sem.run_bind, Sem.run_pure, Result.andThen_ok, h2, and_self, if_true], by omega⟩
    · cases h
  · cases h

/-- The bounds of a part that lies within the first len elements, wherever there is room for as many. -/
theorem boundsH_run {c : Cfg A} {X : Nat → Prop} {W0 W : World} {β : Adr} {st : St A} {a : Act} (ht : TRel β st.t a) (hm : MRel c X W0 β st.m W) {len cap l hh : Nat} {lo hi mx : Option Operand} {vc : List Prop}
    (h : boundsH c st len lo hi mx = some (l, hh, vc)) (hvc : ∀ p ∈ vc, p) (hcap : len ≤ cap) : l ≤ hh ∧ hh ≤ len ∧ (∀ i sz, startN lo i l sz = timesN l sz + i) ∧
      ∃ m, hh ≤ m ∧ m ≤ cap ∧ ∀ sl, (Instr.sliceBounds sl len cap (lo.map a.eval) (hi.map a.eval) (mx.map a.eval)).run c.P W = .ok (l, hh, m) W := by
  unfold boundsH at h
  split at h
  · cases h
  · rename_i hx
    split at h
    · rename_i m v1 h1
      split at h
      · rename_i hq v2 h2
        split at h
        · rename_i l' v3 h3
          simp at h
          obtain ⟨rfl, rfl, rfl⟩ := h
          have hst : ∀ i sz, startN lo i l' sz = timesN l' sz + i := by
            intro i sz
            cases lo with
            | none => simp [bndE] at h3; obtain ⟨rfl, _⟩ := h3; simp [startN, timesN_eq]
            | some _ => rfl
          have d0 : ∀ {y d k : Nat} {v : List Prop}, bndE c st y d none = some (k, v) → d = k := by intro y d k v e; simp [bndE] at e; exact e.1
          have c1 : ∀ p ∈ v1, p := fun p hp => hvc p (by simp [hp])
          have c2 : ∀ p ∈ v2, p := fun p hp => hvc p (by simp [hp])
          have c3 : ∀ p ∈ v3, p := fun p hp => hvc p (by simp [hp])
          cases mx with
          | none =>
            have := d0 h1; subst this
            cases hi with
            | none =>
              have := d0 h2; subst this
              cases lo with
              | none => have := d0 h3; subst this; exact ⟨Nat.zero_le _, Nat.le_refl _, hst, cap, hcap, Nat.le_refl _, fun sl => by simp [Instr.sliceBounds]⟩
              | some x => exact ⟨(bndE_run (code := .sliceB) ht hm h3 c3).2, Nat.le_refl _, hst, cap, hcap, Nat.le_refl _, fun sl => by simp [Instr.sliceBounds, (bndE_run ht hm h3 c3).1]⟩
            | some y =>
              have e2 := (bndE_run (code := .sliceB) ht hm h2 c2).2
              cases lo with
              | none => have := d0 h3; subst this; exact ⟨Nat.zero_le _, e2, hst, cap, by omega, Nat.le_refl _, fun sl => by simp [Instr.sliceBounds, (bndE_most ht hm h2 c2 hcap).1]⟩
              | some x => exact ⟨(bndE_run (code := .sliceB) ht hm h3 c3).2, e2, hst, cap, by omega, Nat.le_refl _, fun sl => by simp [Instr.sliceBounds, (bndE_most ht hm h2 c2 hcap).1, (bndE_run ht hm h3 c3).1]⟩
          | some z =>
            have e1 := (bndE_run (code := .sliceB) ht hm h1 c1).2
            cases hi with
            | none => simp at hx
            | some y =>
              have e2 := (bndE_run (code := .sliceB) ht hm h2 c2).2
              cases lo with
              | none => have := d0 h3; subst this; exact ⟨Nat.zero_le _, by omega, hst, m, e2, by omega, fun sl => by simp [Instr.sliceBounds, (bndE_most ht hm h1 c1 hcap).1, (bndE_run ht hm h2 c2).1]⟩
              | some x => exact ⟨(bndE_run (code := .sliceB) ht hm h3 c3).2, by omega, hst, m, e2, by omega, fun sl => by simp [Instr.sliceBounds, (bndE_most ht hm h1 c1 hcap).1, (bndE_run ht hm h2 c2).1, (bndE_run ht hm h3 c3).1]⟩
        · cases h
      · cases h
    · cases h

theorem LIs.replicate {β : Adr} {z : List (SV A)} {vs : List Value} (h : LIs β z vs) : ∀ k : Nat, LIs β (List.replicate k z).flatten (List.replicate k vs).flatten
  | 0 => rfl
  | k + 1 => by simp only [List.replicate_succ, List.flatten_cons]; exact h.append (LIs.replicate h k)

theorem flat_cells {vs : List Value} {s : Nat} (hs : vs.length = s + 1) (k : Nat) : ((Array.range (k * (s + 1))).map (fun i => vs.toArray[i % vs.toArray.size]!)).toList = (List.replicate k vs).flatten := by
  apply List.ext_getElem
  · simp [List.length_flatten, hs]
  · intro i h1 h2
    simp at h1
    have hm : i % (s + 1) < vs.length := by rw [hs]; exact Nat.mod_lt _ (by omega)
    have key : ∀ (k i : Nat) (h : i < (List.replicate k vs).flatten.length), (List.replicate k vs).flatten[i]'h = vs[i % (s + 1)]'(by rw [hs]; exact Nat.mod_lt _ (by omega)) := by
      intro k
      induction k with
      | zero => intro i h; simp at h
      | succ k ih =>
        intro i h
        simp only [List.replicate_succ, List.flatten_cons, List.getElem_append]
        split
        · rename_i hlt
          congr 1
          exact (Nat.mod_eq_of_lt (by omega)).symm
        · rename_i hge
          rw [ih]
          congr 1
          rw [hs] at hge ⊢
          rw [← Nat.mod_eq_sub_mod (by omega)]
    rw [key k i h2]
    simp only [Array.toList_map, Array.toList_range, List.getElem_map, List.getElem_range, List.size_toArray, hs]
    rw [List.getElem!_toArray, getElem!_pos vs (i % (s + 1)) hm]

theorem litA_is {β : Adr} {s : SV A} {x : A} {vs : List Value} (h : litA s = some x) (hv : s.Is β vs) : ∃ u, vs = [u] ∧ Atom.cells x = [u] := by
  unfold litA at h
  split at h
  · rename_i y
    split at h
    · rename_i hs
      obtain rfl := Option.some.inj h
      have e : vs = Atom.cells y := hv
      have hl := Atom.len y
      rw [← e, hs] at hl
      obtain ⟨u, rfl⟩ := List.length_eq_one_iff.1 hl
      exact ⟨u, rfl, e.symm⟩
    · cases h
  · rename_i k z
    split at h
    · rename_i y hy
      split at h
      · rename_i hw
        obtain rfl := Option.some.inj h
        have e : vs = [.int k z] := hv.1
        have h2 := Atom.wrap_ok hy
        rw [hw] at h2
        exact ⟨_, e, h2⟩
      · cases h
    · cases h
  · cases h
theorem litsA_is {β : Adr} : ∀ {l : List (SV A)} {xs : List A} {vs : List Value}, litsA l = some xs → LIs β l vs → vs.length = xs.length ∧ ∀ (j : Nat) (a : A), xs[j]? = some a → ∃ u, vs[j]? = some u ∧ Atom.cells a = [u]
  | [], xs, vs, h, hv => by
    simp [litsA] at h
    subst h
    obtain rfl : vs = [] := hv
    exact ⟨rfl, fun j a h => by simp at h⟩
  | s :: l, xs, vs, h, ⟨x, y, h1, h2, e⟩ => by
    unfold litsA at h
    split at h
    · rename_i x' r hx hr
      obtain rfl := Option.some.inj h
      obtain ⟨u, rfl, k2⟩ := litA_is hx h1
      obtain ⟨k3, k4⟩ := litsA_is hr h2
      subst e
      refine ⟨by simp [k3], fun j a hj => ?_⟩
      cases j with
      | zero =>
        simp at hj
        subst hj
        exact ⟨u, rfl, k2⟩
      | succ j =>
        simp only [List.getElem?_cons_succ] at hj
        obtain ⟨w, w1, w2⟩ := k4 j a hj
        exact ⟨w, by simpa using w1, w2⟩
    · cases h

/-- Where nothing is called: an operation's value. -/
theorem opV_sound {c : Cfg A} (hc : CallsOK c) {X : Nat → Prop} {W0 W : World} {β : Adr} {st : St A} {a : Act} {o : Oper} {r : Option Nat} {n : Nat} {tv : TV A} {vc : List Prop}
    (ht : TRel β st.t a) (hm : MRel c X W0 β st.m W) (h : opV c st o.op = some (tv, vc)) (hvc : ∀ p ∈ vc, p) :
    Yld r n c.P o a W (fun v W' => ∃ K, Fresh W W' K ∧ tv.Is (β.know K) v ∧ Keeps W W') := by
  have key : ∀ {v : Value}, (∀ d, o.op ≠ .defer d) → (execOp a.eval o).run c.P W = .ok (.value v) W → tv.Is β v → Yld r n c.P o a W (fun v W' => ∃ K, Fresh W W' K ∧ tv.Is (β.know K) v ∧ Keeps W W') :=
    fun hd he hi => yld_value hd he ⟨fun _ _ => False, Fresh.none W W, hi.mono (Adr.le_know β _), Keeps.refl W⟩
  cases hop : o.op with
  | move x =>
    rw [hop] at h
    simp only [opV] at h
    split at h
    · rename_i v hv
      simp at h; obtain ⟨rfl, rfl⟩ := h
      exact key (v := a.eval x) (by simp [hop]) (by simp [execOp, hop]) (evO_is ht hm hv)
    · cases h
  | assign x =>
    rw [hop] at h
    simp only [opV] at h
    split at h
    · rename_i v hv
      simp at h; obtain ⟨rfl, rfl⟩ := h
      exact key (v := a.eval x) (by simp [hop]) (by simp [execOp, hop]) (evO_is ht hm hv)
    · cases h
  | pick q x y =>
    rw [hop] at h
    simp only [opV] at h
    split at h
    · rename_i qv hq
      split at h
      · rename_i b hb
        split at h
        · rename_i v hv
          simp at h; obtain ⟨rfl, rfl⟩ := h
          have e := boolOf_is (evO_is ht hm hq) hb
          refine key (v := if b then a.eval x else a.eval y) (by simp [hop]) (by simp [execOp, hop, asBool, e]) ?_
          have := evO_is ht hm hv
          cases b <;> simpa using this
        · cases h
      · cases h
    · cases h
  | fieldAddr t x f =>
    rw [hop] at h
    simp only [opV] at h
    split at h
    · rename_i xv hx
      split at h
      · rename_i i off fs ha hu
        split at h
        · rename_i fd hf
          split at h
          · rename_i sz hs
            simp at h; obtain ⟨rfl, rfl⟩ := h
            obtain ⟨b, hb, e⟩ := addrOf_is (evO_is ht hm hx) ha
            refine key (v := .pointer (some ⟨b, off + fd.offset, none⟩)) (by simp [hop]) ?_ (LIs.of_single ⟨b, hb, rfl⟩)
            simp [execOp, hop, Instr.fieldAt, run_underlying hu, hf, Instr.sureAddr, e, fieldPlace, run_sizeT hs, add_none]
          · cases h
        · cases h
      · cases h
    · cases h
  | field t x f =>
    rw [hop] at h
    simp only [opV] at h
    split at h
    · rename_i l fs hx hu
      split at h
      · rename_i fd hf
        split at h
        · rename_i v hv
          simp at h; obtain ⟨rfl, rfl⟩ := h
          obtain ⟨vs, hvs, e⟩ := (evO_is ht hm hx : VIs β true l (a.eval x))
          obtain ⟨u, hu1, hu2⟩ := run_partV (P := c.P) (w := W) hv hvs
          refine key (v := u) (by simp [hop]) ?_ hu2
          simp [execOp, hop, Instr.field, run_underlying hu, hf, e, asAgg, hu1]
        · cases h
      · cases h
    · cases h
  | indexAddr t x ix =>
    rw [hop] at h
    simp only [opV] at h
    split at h
    · rename_i xv iv hx hi
      obtain ⟨z, h1, h2⟩ := indexAddrV_run (P := c.P) (w := W) h hvc (evO_is ht hm hx) (evO_is ht hm hi)
      exact key (v := z) (by simp [hop]) (by simp [execOp, hop, h1]) h2
    · cases h
  | index t x ix =>
    rw [hop] at h
    simp only [opV] at h
    split at h
    · rename_i xv iv hx hi
      obtain ⟨z, h1, h2⟩ := indexV_run (P := c.P) (w := W) h hvc (evO_is ht hm hx) (evO_is ht hm hi)
      exact key (v := z) (by simp [hop]) (by simp [execOp, hop, h1]) h2
    · cases h
  | load t x =>
    rw [hop] at h
    simp only [opV] at h
    split at h
    · rename_i xv hx
      obtain ⟨z, h1, h2⟩ := loadV_run hm h hvc (evO_is ht hm hx)
      exact key (v := z) (by simp [hop]) (by simp [execOp, hop, h1]) h2
    · cases h
  | extract x i =>
    rw [hop] at h
    simp only [opV] at h
    split at h
    · rename_i l hx
      split at h
      · rename_i g cs hn
        simp at h; obtain ⟨rfl, rfl⟩ := h
        obtain ⟨vs, hvs, e⟩ := (evO_is ht hm hx : TV.Is β (.tup l) (a.eval x))
        obtain ⟨v, hv, hi⟩ := hvs.nth hn
        refine key (v := v) (by simp [hop]) ?_ hi
        simp [execOp, hop, Instr.extract, e, hv]
      · cases h
    · cases h
  | binOp op t x y yt =>
    rw [hop] at h
    simp only [opV] at h
    split at h
    · rename_i xv yv hx hy
      split at h
      · obtain ⟨z, h1, h2, h3⟩ := divV_run (P := c.P) (w := W) (t := t) (x := x) (y := y) h hvc (evO_is ht hm hx) (evO_is ht hm hy)
        refine key (v := z) (by simp [hop]) ?_ h3
        simp [execOp, hop, h1, h2]
      · split at h
        · rename_i v hv
          simp at h; obtain ⟨rfl, rfl⟩ := h
          obtain ⟨z, h1, h2, h3⟩ := binV_run (P := c.P) (w := W) (x := x) (y := y) hv (evO_is ht hm hx) (evO_is ht hm hy)
          refine key (v := z) (by simp [hop]) ?_ h3
          simp [execOp, hop, h1, h2]
        · cases h
    · cases h
  | unOp op t x =>
    rw [hop] at h
    simp only [opV] at h
    split at h
    · rename_i xv hx
      split at h
      · rename_i v hv
        simp at h; obtain ⟨rfl, rfl⟩ := h
        obtain ⟨z, h1, h2⟩ := unV_run (P := c.P) (w := W) hv (evO_is ht hm hx)
        refine key (v := z) (by simp [hop]) ?_ h2
        simp [execOp, hop, h1]
      · cases h
    · cases h
  | convert src dst x =>
    rw [hop] at h
    simp only [opV] at h
    split at h
    · rename_i s d k hx hs hd
      split at h
      · rename_i l k' a' hi
        simp at h; obtain ⟨rfl, rfl⟩ := h
        have e := intOfSV_is (LIs.single (evO_is ht hm hx : LIs β _ [a.eval x])) hi
        refine key (v := .int k (k.wrap a')) (by simp [hop]) ?_ (LIs.of_single (mkW_is ..))
        simp [execOp, hop, convert, run_underlying hs, run_underlying hd, e, Conv.intToInt]
      · cases h
    · cases h
  | build t parts =>
    rw [hop] at h
    simp only [opV] at h
    split at h
    · rename_i cells fs hz hu
      split at h
      · rename_i ps hp
        split at h
        · rename_i l hl
          simp at h; obtain ⟨rfl, rfl⟩ := h
          obtain ⟨z, hz1, hz2⟩ := run_zeroT (P := c.P) (w := W) (β := β) hz
          obtain ⟨us, hu1, hu2⟩ := fillV_run ht hm hl hz2
          refine key (v := .agg us.toArray) (by simp [hop]) ?_ ⟨us, hu2, rfl⟩
          have e1 : (fs.mapM (fun f => do pure (f.offset, ← sizeOf f.type) : Field → Sem (Nat × Nat))).run c.P W = .ok ps.toArray W := by
            rw [Array.mapM_eq_mapM_toList, Sem.run_map, placesOf_eq hp W]
            rfl
          have e2 : (fun i => ps.toArray[i]?) = fun i => nth ps i := by funext i; simp [nth_eq]
          have e3 : (parts.map fun x => (x.1, a.eval x.2)).toList = parts.toList.map fun x => (x.1, a.eval x.2) := by simp
          simp only [execOp, hop, Instr.build, Sem.run_bind, hz1, Result.andThen_ok, run_underlying hu, e1]
          rw [e2, e3]
          simp only [Array.toArray_toList] at hu1
          rw [hu1]
          rfl
        · cases h
      · cases h
    · rename_i cells len e hz hu
      split at h
      · rename_i sz hs
        split at h
        · rename_i l hl
          simp at h; obtain ⟨rfl, rfl⟩ := h
          obtain ⟨z, hz1, hz2⟩ := run_zeroT (P := c.P) (w := W) (β := β) hz
          obtain ⟨us, hu1, hu2⟩ := fillV_run ht hm hl hz2
          refine key (v := .agg us.toArray) (by simp [hop]) ?_ ⟨us, hu2, rfl⟩
          have e3 : (parts.map fun x => (x.1, a.eval x.2)).toList = parts.toList.map fun x => (x.1, a.eval x.2) := by simp
          simp only [execOp, hop, Instr.build, Sem.run_bind, hz1, Result.andThen_ok, run_underlying hu, run_sizeT hs]
          rw [e3]
          simp only [Array.toArray_toList] at hu1
          rw [hu1]
          rfl
        · cases h
      · cases h
    · cases h
  | slice t x lo hi mx =>
    rw [hop] at h
    simp only [opV] at h
    split at h
    · rename_i i off len e hx hu
      obtain ⟨l, hh, m, sz, rfl, rfl, hs, hr⟩ := sliceV_run ht hm h
      obtain ⟨b, hb, ex⟩ := LIs.single (evO_is ht hm hx : LIs β _ [a.eval x])
      simp at ex
      refine key (v := .slice (some ⟨b, if m = l then off else off + l * sz, none⟩) (hh - l) (m - l)) (by simp [hop]) ?_ (LIs.of_single ⟨b, hb, rfl⟩)
      simp only [execOp, hop, Instr.sliceAt, Sem.run_bind, run_underlying hu, Result.andThen_ok, ex, Instr.sureAddr, Sem.run_pure, hr false, run_sizeT hs, add_none]
      split <;> simp_all
    · rename_i i off len cap e hx hu
      obtain ⟨l, hh, m, sz, rfl, rfl, hs, hr⟩ := sliceV_run ht hm h
      obtain ⟨b, hb, ex⟩ := LIs.single (evO_is ht hm hx : LIs β _ [a.eval x])
      simp at ex
      refine key (v := .slice (some ⟨b, if m = l then off else off + l * sz, none⟩) (hh - l) (m - l)) (by simp [hop]) ?_ (LIs.of_single ⟨b, hb, rfl⟩)
      simp only [execOp, hop, Instr.sliceAt, Instr.slice, Sem.run_bind, run_underlying hu, Result.andThen_ok, ex, Sem.run_pure, hr true, run_sizeT hs, Option.map_some, add_none]
      split <;> simp_all
    · rename_i a' f i len cap e hx hu
      obtain ⟨l, hh, m, sz, rfl, hs, hl1, hl2, hl3, hr⟩ := sliceE_run ht hm h hvc
      have ex := LIs.single (evO_is ht hm hx : LIs β _ [a.eval x])
      cases a' with
      | none =>
        obtain ⟨rfl, rfl, e1⟩ := ex
        simp at e1
        have hm0 : m = 0 := by omega
        have hh0 : hh = 0 := by have := hl3 (Nat.le_refl _); omega
        have hl0 : l = 0 := by omega
        subst hm0; subst hh0; subst hl0
        refine key (v := .slice none 0 0) (by simp [hop]) ?_ (LIs.of_single ⟨rfl, rfl, rfl⟩)
        simp only [execOp, hop, Instr.sliceAt, Instr.slice, Sem.run_bind, run_underlying hu, Result.andThen_ok, e1, Sem.run_pure, hr true, run_sizeT hs]
        simp
      | some b =>
        obtain ⟨p, hp, hnc, e1⟩ := ex
        simp at e1
        refine key (v := .slice (some (if m = l then p else p.add (l * sz))) (hh - l) (m - l)) (by simp [hop]) ?_ (LIs.of_single ⟨_, fun h0 => ?_, ?_, rfl⟩)
        · simp only [execOp, hop, Instr.sliceAt, Instr.slice, Sem.run_bind, run_underlying hu, Result.andThen_ok, e1, Sem.run_pure, hr true, run_sizeT hs, Option.map_some]
          split <;> simp_all
        · rw [if_neg (by omega), hp (by omega), Addr.add_add, timesN_eq, Nat.add_comm]
        · have := hl3 hnc
          omega
    · rename_i f i len sz' e hx hu
      split at h
      · rename_i sz l hh vc' hs hb
        split at h
        · rename_i he
          simp at h; obtain ⟨rfl, rfl⟩ := h
          subst he
          have ex : knownIs β f i len sz [a.eval x] := LIs.single (evO_is ht hm hx : LIs β _ [a.eval x])
          rcases ex with ⟨rfl, e1⟩ | ⟨p, cp, e1, hnc, hk⟩
          · simp at e1
            obtain ⟨k1, k2, k3, m, k4, k5, k6⟩ := boundsH_run (cap := 0) ht hm hb hvc (Nat.le_refl _)
            have hm0 : m = 0 := by omega
            have hh0 : hh = 0 := by omega
            have hl0 : l = 0 := by omega
            subst hm0; subst hh0; subst hl0
            refine key (v := .slice none 0 0) (by simp [hop]) ?_ (LIs.of_single (.inl ⟨rfl, rfl⟩))
            simp only [execOp, hop, Instr.sliceAt, Instr.slice, Sem.run_bind, run_underlying hu, Result.andThen_ok, e1, Sem.run_pure, k6 true, run_sizeT hs]
            simp
          · simp at e1
            obtain ⟨k1, k2, k3, m, k4, k5, k6⟩ := boundsH_run ht hm hb hvc hnc
            refine key (v := .slice (some (if m = l then p else p.add (l * sz))) (hh - l) (m - l)) (by simp [hop]) ?_ (LIs.of_single (.inr ⟨_, _, rfl, by omega, ?_⟩))
            · simp only [execOp, hop, Instr.sliceAt, Instr.slice, Sem.run_bind, run_underlying hu, Result.andThen_ok, e1, Sem.run_pure, k6 true, run_sizeT hs, Option.map_some]
              split <;> simp_all
            · rw [k3]
              intro j hj
              have hml : ¬ m = l := by
                intro e0
                have : hh - l = 0 := by omega
                rw [this] at hj
                simp at hj
              rw [if_neg hml]
              have e2 : (hh - l) * sz = hh * sz - l * sz := Nat.sub_mul _ _ _
              have e3 : hh * sz ≤ len * sz := Nat.mul_le_mul_right _ k2
              obtain ⟨v, g1, g2⟩ := hk (l * sz + j) (by omega)
              refine ⟨v, by rw [Addr.add_add]; exact g1, ?_⟩
              rw [timesN_eq, show l * sz + i + j = i + (l * sz + j) by omega]
              exact g2
        · cases h
      · cases h
    · cases h
  | makeFunc fn first captured =>
    rw [hop] at h
    cases fn with
    | func g =>
      simp only [opV] at h
      split at h
      · rename_i l hl
        split at h
        · rename_i cs hcs
          split at h
          · rename_i hf
            simp at h; obtain ⟨rfl, rfl⟩ := h
            have h1 := capsOf_is hcs (evL_is ht hm hl)
            refine key (v := .func (.func g) #[] (captured.toList.map a.eval).toArray) (by simp [hop]) ?_ (LIs.of_single ⟨_, h1, rfl⟩)
            have : first = #[] := by simpa using hf
            subst this
            have e : captured.map a.eval = (captured.toList.map a.eval).toArray := Array.toList_inj.1 (by simp)
            rw [← e]
            simp [execOp, hop, Instr.makeFunc]
          · cases h
        · cases h
      · cases h
    | _ => simp [opV] at h
  | buildSlice t len parts =>
    rw [hop] at h
    simp only [opV] at h
    split at h
    · rename_i e hu
      split at h
      · rename_i z hs hz
        split at h
        · rename_i hle
          split at h
          · rename_i hzl
            split at h
            · rename_i cells hf
              split at h
              · rename_i x l hlit
                split at h
                · rename_i hlen
                  simp at h; obtain ⟨rfl, rfl⟩ := h
                  obtain ⟨zv, hz1, hz2⟩ := run_zeroT (P := c.P) (w := W) (β := β) hz
                  obtain ⟨us, hu1, hu2⟩ := fillV_run ht hm hf (hz2.replicate len)
                  obtain ⟨g1, g2⟩ := litsA_is hlit hu2
                  refine yld_value (v := .slice (some ⟨W.heap.size, 0, none⟩) len len) (W' := W.alloc (.cells us.toArray e)) (by simp [hop]) ?_ ⟨fun a' u => ∃ j, j < len ∧ a' = (⟨W.heap.size, 0, none⟩ : Addr).add j ∧ us[j]? = some u, ?_, ?_, Keeps.alloc W _⟩
                  · have hzv : zv.cells.toList.length = 0 + 1 := by
                      have hone : lsize z = z.length := by
                        unfold zeroT at hz
                        split at hz
                        · split at hz
                          · split at hz
                            · rename_i v _ _
                              simp at hz; subst hz
                              generalize v.cells.toList = l
                              induction l with
                              | nil => rfl
                              | cons x l ih => simp [lsize, SV.size, ih]; omega
                            · cases hz
                          · cases hz
                        · cases hz
                      rw [hz2.len, hone, hzl]
                    have e3 : (parts.map fun x => (x.1, a.eval x.2)).toList = parts.toList.map fun x => (x.1, a.eval x.2) := by simp
                    have e4 := flat_cells hzv len
                    have e5 : (Array.range (len * (0 + 1))).map (fun i => zv.cells[i % zv.cells.size]!) = ((List.replicate len zv.cells.toList).flatten).toArray := by
                      apply Array.toList_inj.1
                      rw [← e4]
                    have hno : ¬ (len * (0 + 1) > 2 ^ 24) := by omega
                    have hlen0 : ¬ len * (0 + 1) = 0 := by
                      have : (x :: l).length = len := hlen
                      simp at this
                      omega
                    have hs' : sizeT c.P e = some (0 + 1) := hs
                    simp only [execOp, hop, Instr.buildSlice, Sem.run_bind, run_underlying hu, Result.andThen_ok, run_sizeT hs', Sem.run_ite, if_neg hno]
                    simp only [hlen0, if_false, hz1, Result.andThen_ok, Sem.run_pure]
                    rw [e5, e3, hu1]
                    simp [newRow]
                  · rintro a' u ⟨j, hj, rfl, hju⟩
                    have hh : (W.alloc (.cells us.toArray e)).heap[W.heap.size]? = some (.cells us.toArray e) := by
                      show (W.heap.push _)[W.heap.size]? = _
                      simp
                    rw [add_none, Nat.zero_add]
                    exact ⟨by rw [cell_of_row _ _ _ _ _ _ hh]; simpa using hju, Nat.le_refl _⟩
                  · refine LIs.of_single (.inr ⟨⟨W.heap.size, 0, none⟩, len, rfl, Nat.le_refl _, fun j hj => ?_⟩)
                    have hj' : j < (x :: l).length := by rw [hlen]; omega
                    obtain ⟨u, u1, u2⟩ := g2 j _ (List.getElem?_eq_getElem hj')
                    refine ⟨u, .inr ⟨j, by omega, rfl, u1⟩, ?_⟩
                    have e9 : ((x :: l)[0 + j]?).getD x = (x :: l)[j] := by rw [Nat.zero_add, List.getElem?_eq_getElem hj']; rfl
                    show Atom.cells (((x :: l)[0 + j]?).getD x) = [u]
                    rw [e9]
                    exact u2
                · cases h
              · cases h
            · cases h
          · cases h
        · cases h
      · cases h
    · cases h
  | call cl =>
    rw [hop] at h
    obtain ⟨callee, args, ats⟩ := cl
    cases callee with
    | value f =>
      cases f with
      | func g =>
        simp only [opV] at h
        split at h
        · rename_i l hl
          split at h
          · rename_i v vc' hcall
            simp at h; obtain ⟨rfl, rfl⟩ := h
            have hargs := evL_is ht hm hl
            have e : ∀ W, (execOp a.eval o).run c.P W = (callFunc g (args.toList.map a.eval).toArray).run c.P W := by
              intro W
              have e : args.map a.eval = (args.toList.map a.eval).toArray := Array.toList_inj.1 (by simp)
              rw [← e]
              simp [execOp, hop, resolve, Deferred.ofValue, Act.eval, invoke]
            rcases hc g l st.m v none vc' hcall hvc X W0 W β _ hm hargs with ⟨u, h1, h2⟩ | ⟨h1, h2⟩
            · exact yld_value (by simp [hop]) (by rw [e]; exact h1) h2
            · exact yld_enter (by simp [hop]) (by rw [e]; exact h1) h2
          · cases h
        · cases h
      | _ => simp [opV] at h
    | builtin b =>
      cases b with
      | len =>
        simp only [opV] at h
        split at h
        · rename_i xv t hl hat
          split at h
          · rename_i v' hv
            simp at h; obtain ⟨rfl, rfl⟩ := h
            obtain ⟨v, r', h1, h2, h3⟩ := evL_is ht hm hl
            obtain rfl : r' = [] := h2
            obtain ⟨z, k1, k2⟩ := lenV_run (P := c.P) (w := W) (ty := o.type) hv h1 hat
            have hargs : args.map a.eval = #[v] := by
              apply Array.toList_inj.1; simpa using h3
            refine key (v := z) (by simp [hop]) ?_ k2
            simp [execOp, hop, resolve, invoke, builtin, hargs, k1]
          · cases h
        · cases h
      | max =>
        simp only [opV] at h
        split at h
        · rename_i l hl
          split at h
          · rename_i v hv
            simp at h; obtain ⟨rfl, rfl⟩ := h
            obtain ⟨z, h1, h2⟩ := extV_run (P := c.P) (w := W) hv (evL_is ht hm hl) ats ats o.type
            refine key (v := z) (by simp [hop]) ?_ h2
            have e : args.map a.eval = (args.toList.map a.eval).toArray := Array.toList_inj.1 (by simp)
            rw [← e] at h1
            simp [execOp, hop, resolve, invoke, builtin, h1]
          · cases h
        · cases h
      | min =>
        simp only [opV] at h
        split at h
        · rename_i l hl
          split at h
          · rename_i v hv
            simp at h; obtain ⟨rfl, rfl⟩ := h
            obtain ⟨z, h1, h2⟩ := extV_run (P := c.P) (w := W) hv (evL_is ht hm hl) ats ats o.type
            refine key (v := z) (by simp [hop]) ?_ h2
            have e : args.map a.eval = (args.toList.map a.eval).toArray := Array.toList_inj.1 (by simp)
            rw [← e] at h1
            simp [execOp, hop, resolve, invoke, builtin, h1]
          · cases h
        · cases h
      | _ => simp [opV] at h
    | invoke r m => simp [opV] at h
  | _ => rw [hop] at h; simp [opV] at h

end
end Go.Sh

/- An operation of whatever kind, and a row of operations one behind the other, on shadows and on values. -/
namespace Go.Sh
open Go.RowKit

section
variable {A : Type} [Atom A]

theorem nth_append_lt {α : Type} : ∀ {l r : List α} {i : Nat}, i < l.length → nth (l ++ r) i = nth l i := by
  intro l r i h
  rw [nth_eq, nth_eq, List.getElem?_append_left h]

theorem nth_lt {α : Type} {l : List α} {i : Nat} {x : α} (h : nth l i = some x) : i < l.length := by
  rw [nth_eq] at h
  exact (List.getElem?_eq_some_iff.1 h).1

theorem nth_snoc {α : Type} (l : List α) (x : α) : nth (l ++ [x]) l.length = some x := by
  rw [nth_eq]; simp

theorem nth_setN {α : Type} (l : List α) (i j : Nat) (y : α) : nth (setN l i y) j = if i = j then (if i < l.length then some y else none) else nth l j := by
  rw [nth_eq, setN_eq, nth_eq, List.getElem?_set]

/-- β with one more block. -/
def Adr.put (β : Adr) (k b : Nat) : Adr := ⟨fun i => if i = k then some b else β i, β.kp, β.kn, β.gs⟩

theorem Adr.put_at (β : Adr) (k b i : Nat) : (β.put k b) i = if i = k then some b else β i := rfl

theorem Adr.le_put {β : Adr} {k b : Nat} (h : β k = none) : Adr.le β (β.put k b) := by
  refine ⟨fun i b' e => ?_, fun _ h => h, fun _ _ h => h, fun _ _ _ h => h⟩
  rw [Adr.put_at]
  split
  · rename_i h'; subst h'; rw [h] at e; cases e
  · exact e

theorem setRow_at (w : World) (b k : Nat) (cs old : Array Value) (t : TypeId) (fz : Nat × Nat) (h : w.heap[b]? = some (.cells old t fz)) :
    (w.setRow b cs).heap[k]? = if k = b then some (.cells cs t fz) else w.heap[k]? := by
  unfold World.setRow
  simp only [Array.getElem?_modify]
  by_cases e : b = k
  · subst e; simp [h]
  · have e' : ¬ k = b := fun x => e x.symm
    simp [e, e']

theorem NC.setRow {w : World} {b : Nat} {old : Array Value} {t : TypeId} {fz : Nat × Nat} (h : w.heap[b]? = some (.cells old t fz)) (cs : Array Value) : NC w (w.setRow b cs) := fun k o hk ho => by
  rw [setRow_at w b k _ _ _ _ h, if_neg]
  · exact hk
  · rintro rfl
    rw [h] at hk
    cases hk
    cases ho

/-- A new block. -/
theorem MRel.alloc {c : Cfg A} {X : Nat → Prop} {W0 W : World} {β : Adr} {m m' : Mem A} {k : Nat} {cells : List (SV A)} {vs : List Value} {t : TypeId} (h : MRel c X W0 β m W) (hk : β k = none) (hv : LIs β cells vs)
    (hm : ∀ i blk, nth m' i = some (some blk) → (i = k ∧ blk = ⟨cells, t, false⟩) ∨ (i ≠ k ∧ nth m i = some (some blk))) :
    MRel c X W0 (β.put k W.heap.size) m' (W.alloc (.cells vs.toArray t)) := by
  have hle : Adr.le β (β.put k W.heap.size) := Adr.le_put hk
  have hal : ∀ i, i < W.heap.size → (W.alloc (.cells vs.toArray t)).heap[i]? = W.heap[i]? := fun i hi => (Keeps.alloc W _).block i hi id
  have hplain : ∀ (blk : Blk A) v n l, blk = ⟨cells, t, false⟩ → blk.vec ≠ some (v, n, l) := by
    rintro blk v n l rfl e
    unfold Blk.vec at e
    split at e
    · rename_i heq
      change cells = _ at heq
      rw [heq] at hv
      obtain ⟨_, _, h1, _⟩ := hv
      exact h1
    · cases e
  have hk' := h.keeps (Keeps.alloc W (.cells vs.toArray t))
  have vin : ∀ {i b}, vecIn (β.put k W.heap.size) m' i b → vecIn β m i b ∧ i ≠ k := by
    rintro i b ⟨blk, v, n, l, cap, g1, g2, g3⟩
    rcases hm i blk g1 with ⟨rfl, e⟩ | ⟨hne, hi'⟩
    · exact absurd g2 (hplain blk v n l e)
    · exact ⟨⟨blk, v, n, l, cap, hi', g2, g3⟩, hne⟩
  refine ⟨?_, ?_, ?_, h.ext.trans (Keeps.alloc W _).ext, fun g i e => hle.pl _ _ (h.glob g i e), h.old, hk'.nc, fun a v hkn => ?_, fun i blk v n l hi hvec => ?_, fun i b hvi j => ?_⟩
  rotate_left 3
  · obtain ⟨g1, g2, g3⟩ := hk'.kn a v hkn
    refine ⟨g1, g2, fun i hw => ?_⟩
    have hlt := cell?_lt (h.kn a v hkn).1
    rcases hw with ⟨blk, w1, w2, w3, w4⟩ | hw
    · rcases hm i blk w1 with ⟨rfl, e⟩ | ⟨hne, hi'⟩
      · rw [Adr.put_at, if_pos rfl] at w4
        have := Option.some.inj w4
        omega
      · rw [Adr.put_at, if_neg hne] at w4
        exact g3 i (.inl ⟨blk, hi', w2, w3, w4⟩)
    · exact g3 i (.inr (vin hw).1)
  · rcases hm i blk hi with ⟨rfl, e⟩ | ⟨hne, hi'⟩
    · exact absurd hvec (hplain blk v n l e)
    · have g := hk'.vec i blk v n l hi' hvec
      exact g.mono hle (by rw [Adr.put_at, if_neg hne]; exact g.free) g.last
  · obtain ⟨hvi', hne⟩ := vin hvi
    obtain ⟨s1, s2⟩ := h.sep i b hvi' j
    refine ⟨fun blk hj e => ?_, fun hvj => s2 (vin hvj).1⟩
    rcases hm j blk hj with ⟨rfl, _⟩ | ⟨hnj, hj'⟩
    · rw [Adr.put_at, if_pos rfl] at e
      have := wrt.lt h (.inr hvi')
      have := Option.some.inj e
      omega
    · rw [Adr.put_at, if_neg hnj] at e
      exact s1 blk hj' e
  · intro i blk hi hnv
    rcases hm i blk hi with ⟨rfl, rfl⟩ | ⟨hne, hi'⟩
    · refine ⟨W.heap.size, vs, (0, 0), by simp [Adr.put_at], hv.mono hle, ?_, fun _ => ⟨rfl, .inl h.ext.size⟩⟩
      show (W.heap.push _)[W.heap.size]? = _
      simp
    · obtain ⟨b, us, fz, h1, h2, h3, h4⟩ := h.mem i blk hi' hnv
      exact ⟨b, us, fz, hle.pl _ _ h1, h2.mono hle, by rw [hal b (h.dom i b h1)]; exact h3, h4⟩
  · intro i j bi bj b li lj hi hj
    rw [Adr.put_at] at hi hj
    rcases hm i bi li with ⟨e1, _⟩ | ⟨e1, li⟩ <;> rcases hm j bj lj with ⟨e2, _⟩ | ⟨e2, lj⟩
    · omega
    · rw [if_pos e1] at hi; rw [if_neg e2] at hj; have := h.dom j b hj; simp at hi; omega
    · rw [if_neg e1] at hi; rw [if_pos e2] at hj; have := h.dom i b hi; simp at hj; omega
    · rw [if_neg e1] at hi; rw [if_neg e2] at hj; exact h.inj i j bi bj b li lj hi hj
  · intro i b hi
    show b < (W.heap.push _).size
    rw [Adr.put_at] at hi
    split at hi
    · simp at hi ⊢; omega
    · have := h.dom i b hi; simp; omega

/-- A block is written. -/
theorem MRel.setRow {c : Cfg A} {X : Nat → Prop} {W0 W : World} {β : Adr} {m : Mem A} {i b : Nat} {blk : Blk A} {cells : List (SV A)} {vs us : List Value} (h : MRel c X W0 β m W)
    (hb : β i = some b) (hi : nth m i = some (some blk)) (hro : blk.ro = false) (hold : W.heap[b]? = some (.cells us.toArray blk.ty (0, 0))) (hv : LIs β cells vs) :
    MRel c X W0 β (setN m i (some ⟨cells, blk.ty, false⟩)) (W.setRow b vs.toArray) := by
  obtain ⟨b', us', fz, g1, g2, g3, g4⟩ := h.mem' hi hb
  have : b' = b := by rw [hb] at g1; exact (Option.some.inj g1).symm
  subst this
  have hpl := h.plain hi hb
  obtain ⟨_, gx⟩ := g4 hro
  have hsz : (W.setRow b' vs.toArray).heap.size = W.heap.size := size_setRow _ _ _
  have lives : ∀ j blk', nth (setN m i (some ⟨cells, blk.ty, false⟩)) j = some (some blk') → ∃ bj, nth m j = some (some bj) := by
    intro j blk' hj
    rw [nth_setN] at hj
    split at hj
    · rename_i e; subst e; exact ⟨blk, hi⟩
    · exact ⟨blk', hj⟩
  have hnew : (⟨cells, blk.ty, false⟩ : Blk A).vec = none := by
    unfold Blk.vec
    split
    · rename_i heq
      change cells = _ at heq
      rw [heq] at hv
      obtain ⟨_, _, h1, _⟩ := hv
      exact h1.elim
    · rfl
  have hb0 : wrt β m i b' := .inl ⟨blk, hi, hpl, hro, hb⟩
  have entry : ∀ {j blk'}, nth (setN m i (some ⟨cells, blk.ty, false⟩)) j = some (some blk') → (j = i ∧ blk' = ⟨cells, blk.ty, false⟩) ∨ (i ≠ j ∧ nth m j = some (some blk')) := by
    intro j blk' hj
    rw [nth_setN] at hj
    split at hj
    · rename_i e
      split at hj
      · simp at hj; exact .inl ⟨e.symm, hj.symm⟩
      · cases hj
    · rename_i e; exact .inr ⟨e, hj⟩
  have vin : ∀ {j b}, vecIn β (setN m i (some ⟨cells, blk.ty, false⟩)) j b → vecIn β m j b := by
    rintro j b ⟨blk', v, n, l, cap, g1, g2, g3⟩
    rcases entry g1 with ⟨_, rfl⟩ | ⟨_, hj'⟩
    · rw [hnew] at g2; cases g2
    · exact ⟨blk', v, n, l, cap, hj', g2, g3⟩
  have win : ∀ {j b}, wrt β (setN m i (some ⟨cells, blk.ty, false⟩)) j b → wrt β m j b := by
    rintro j b (⟨blk', w1, w2, w3, w4⟩ | hw)
    · rcases entry w1 with ⟨rfl, rfl⟩ | ⟨_, hj'⟩
      · have : b = b' := Option.some.inj (w4.symm.trans hb)
        rw [this]; exact hb0
      · exact .inl ⟨blk', hj', w2, w3, w4⟩
    · exact .inr (vin hw)
  have other : ∀ {b}, b ≠ b' → (W.setRow b' vs.toArray).heap[b]? = W.heap[b]? := fun {b} hne => by rw [setRow_at W b' b _ _ _ _ hold, if_neg hne]
  refine ⟨?_, fun j j' bj bj' b l1 l2 => ?_, fun j b hj => by rw [hsz]; exact h.dom j b hj, ?_, h.glob, h.old, fun k hk => ?_, fun a v hkn => ?_, fun j blk' v n l hj hvec => ?_, fun j b hvj j2 => ?_⟩
  rotate_left 4
  · obtain ⟨k1, k2, k3⟩ := h.kn a v hkn
    exact ⟨cell?_same k1 (other (fun e => k3 i (e ▸ hb0))), k2, fun j hw => k3 j (win hw)⟩
  · rcases entry hj with ⟨_, rfl⟩ | ⟨_, hj'⟩
    · rw [hnew] at hvec; cases hvec
    · refine (h.vec j blk' v n l hj' hvec).kept (fun _ _ _ h => h) (fun b cap hb2 => other (fun e => ?_))
      subst e
      exact (h.sep j b ⟨blk', v, n, l, cap, hj', hvec, hb2⟩ i).1 blk hi hb
  · obtain ⟨s1, s2⟩ := h.sep j b (vin hvj) j2
    refine ⟨fun blk2 h2 e => ?_, fun hv2 => s2 (vin hv2)⟩
    obtain ⟨x, hx⟩ := lives j2 blk2 h2
    exact s1 x hx e
  · intro j blk' hj hnv
    rw [nth_setN] at hj
    split at hj
    · rename_i e
      subst e
      split at hj
      · simp at hj
        subst hj
        exact ⟨b', vs, (0, 0), hb, hv, by rw [setRow_at W b' b' _ _ _ _ hold]; simp, fun _ => ⟨rfl, gx⟩⟩
      · cases hj
    · rename_i hne
      obtain ⟨b2, us2, fz2, k1, k2, k3, k4⟩ := h.mem j blk' hj hnv
      have hb2 : ¬ b2 = b' := fun e => hne (h.inj i j blk blk' b' hi hj hb (e ▸ k1))
      exact ⟨b2, us2, fz2, k1, k2, by rw [setRow_at W b' b2 _ _ _ _ hold, if_neg hb2]; exact k3, k4⟩
  · obtain ⟨x, hx⟩ := lives j bj l1
    obtain ⟨y, hy⟩ := lives j' bj' l2
    exact h.inj j j' x y b hx hy
  · refine ⟨h.ext.os, h.ext.tape, h.ext.output, by rw [hsz]; exact h.ext.size, fun k hk hx => ?_⟩
    rw [setRow_at W b' k _ _ _ _ hold, if_neg ?_]
    · exact h.ext.block k hk hx
    · intro e
      subst e
      rcases gx with gx | gx
      · omega
      · exact hx gx
  · have := h.nc k hk
    rw [setRow_at W b' k _ _ _ _ hold, if_neg]
    · exact this
    · intro e
      subst e
      rw [hold] at this
      cases this.1

omit [Atom A] in
theorem Top.append {β : Adr} {m : Mem A} {x : Option (Blk A)} {b : Nat} (h : Top β m) : Top (β.put m.length b) (m ++ [x]) := by
  intro i hi
  simp at hi
  refine ⟨?_, (h i (by omega)).2⟩
  rw [Adr.put_at, if_neg (by omega)]
  exact (h i (by omega)).1

theorem setN_length {α : Type} (l : List α) (i : Nat) (y : α) : (setN l i y).length = l.length := by rw [setN_eq]; simp

omit [Atom A] in
theorem Top.setN {β : Adr} {m : Mem A} {x : Option (Blk A)} {i : Nat} (h : Top β m) : Top β (Sh.setN m i x) := by
  intro j hj
  rw [setN_length] at hj
  exact h j hj

omit [Atom A] in
theorem append_cases {m : Mem A} {b : Blk A} (i : Nat) (blk : Blk A) (h : nth (m ++ [some b]) i = some (some blk)) : (i = m.length ∧ blk = b) ∨ (i ≠ m.length ∧ nth m i = some (some blk)) := by
  have hl := nth_lt h
  simp at hl
  by_cases e : i = m.length
  · subst e
    rw [nth_snoc] at h
    simp at h
    exact .inl ⟨rfl, h.symm⟩
  · rw [nth_append_lt (by omega)] at h
    exact .inr ⟨e, h⟩

omit [Atom A] in
theorem callX_vc {c : Cfg A} {st st' : St A} {d : Option Tmp} {g : FuncId} {l : List (TV A)} (h : callX c st d g l = some st') : ∀ p ∈ st.vc, p ∈ st'.vc := by
  have hp : ∀ (s : St A) d v, (putT s d v).vc = s.vc := by intro s d v; cases d <;> rfl
  unfold callX at h
  split at h <;> (try cases h) <;> (intro p hp'; simp [hp, hp'])

theorem exec1_vc {c : Cfg A} {st st' : St A} {o : Oper} (h : exec1 c st o = some st') : ∀ p ∈ st.vc, p ∈ st'.vc := by
  have hp : ∀ (s : St A) d v, (putT s d v).vc = s.vc := by intro s d v; cases d <;> rfl
  unfold exec1 at h
  split at h <;> (try (repeat' split at h)) <;> first | (cases h; done) | exact callX_vc h | (cases h; intro p hp'; simp [hp, hp'])

theorem storeV_run {c : Cfg A} {X : Nat → Prop} {W0 W : World} {β : Adr} {m m' : Mem A} {t : TypeId} {xv yv : TV A} {u v : Value} (hm : MRel c X W0 β m W) (h : storeV c.P m t xv yv = some m') (hx : xv.Is β u) (hy : yv.Is β v) :
    ∃ W', (Instr.storeAt t u v).run c.P W = .ok () W' ∧ MRel c X W0 β m' W' ∧ (Top β m → Top β m') ∧ NC W W' := by
  unfold storeV at h
  split at h
  · rename_i i off l hl
    split at h
    · rename_i blk hb
      split at h
      · rename_i cells hro ho
        split at h
        · rename_i hsz
          obtain rfl := Option.some.inj h
          obtain ⟨b, hb1, e⟩ := LIs.single (hx : LIs β _ [u])
          simp at e; subst e
          obtain ⟨b', us, fz, g1, g2, g3, g4⟩ := hm.mem' hb hb1
          have : b' = b := by rw [hb1] at g1; exact (Option.some.inj g1).symm
          subst this
          obtain ⟨rfl, gx⟩ := g4 hro
          have hy' := cellsT_is hy hl
          obtain ⟨h1, h2⟩ := over_is g2 hy' ho
          have hs : sizeT c.P t = some v.cells.toList.length := by rw [hsz, hy'.len]
          exact ⟨_, by simp [Instr.storeAt, Instr.sureAddr, run_storePart hs g3 h2 hy'.one], hm.setRow hb1 hb hro g3 h1, fun ht => ht.setN, NC.setRow g3 _⟩
        · cases h
      · cases h
    · cases h
  · rename_i i off n z s hl
    split at h
    · rename_i blk hb
      split at h
      · rename_i l y hro hc hy1 hsz
        split at h
        · rename_i row hrow
          split at h
          · rename_i hn
            split at h
            · rename_i row' hset
              split at h
              · rename_i cells ho
                obtain rfl := Option.some.inj h
                obtain ⟨hz, b, hb1, e⟩ := LIs.single (hx : LIs β _ [u])
                simp at e; subst e
                obtain ⟨b', us, fz, g1, g2, g3, g4⟩ := hm.mem' hb hb1
                have : b' = b := by rw [hb1] at g1; exact (Option.some.inj g1).symm
                subst this
                obtain ⟨rfl, gx⟩ := g4 hro
                have hy' := cellsT_is hy hl
                obtain ⟨x, q, hx1, hq, e⟩ := hy'
                obtain rfl : q = [] := hq
                rw [List.append_nil] at e
                subst e
                obtain ⟨h1, h2⟩ := cut_is g2 hc
                have hr := rowA_is h1 hrow
                obtain ⟨w, k1, k2⟩ := Atom.set_ok hset (by omega)
                have e2 := atomOf_is hx1 hy1
                rw [k1] at e2
                have hrl : ((us.drop off).take n).length = n := by simp; omega
                have hnew : LIs β [.a row'] (((us.drop off).take n).set z w) := by
                  refine ⟨_, [], rfl, rfl, ?_⟩
                  rw [List.append_nil, k2, ← hr]
                obtain ⟨o1, o2⟩ := over_is g2 hnew ho
                rw [List.length_set, hrl] at o1 o2
                have hs : sizeT c.P t = some v.cells.toList.length := by rw [e2]; exact hsz
                have hone : ∀ x ∈ v.cells.toList, x.oneCell' = true := SV.Is.one hx1
                have hst := run_storePart (P := c.P) (w := W) (off := off + z) (v := v) hs g3 (by rw [e2]; simp; omega) hone
                rw [e2] at hst
                have e3 : us.take (off + z) ++ [w] ++ us.drop (off + z + [w].length) = us.take off ++ ((us.drop off).take n).set z w ++ us.drop (off + n) := by
                  have hz' : z < ((us.drop off).take n).length := by omega
                  rw [List.set_eq_take_append_cons_drop, if_pos hz']
                  have a1 : us.take (off + z) = us.take off ++ (us.drop off).take z := by rw [List.take_add]
                  have a2 : ((us.drop off).take n).take z = (us.drop off).take z := by rw [List.take_take]; congr 1; omega
                  have a3 : us.drop (off + z + 1) = ((us.drop off).take n).drop (z + 1) ++ us.drop (off + n) := by
                    rw [List.drop_take, List.drop_drop]
                    have : us.drop (off + n) = (us.drop (off + (z + 1))).drop (n - (z + 1)) := by rw [List.drop_drop]; congr 1; omega
                    rw [this, List.take_append_drop]
                    congr 1
                  rw [a1, a2]
                  show _ ++ us.drop (off + z + 1) = _
                  rw [a3]
                  simp [List.append_assoc]
                rw [e3] at hst
                exact ⟨_, by simp [Instr.storeAt, Instr.sureAddr, hst], hm.setRow hb1 hb hro g3 o1, fun ht => ht.setN, NC.setRow g3 _⟩
              · cases h
            · cases h
          · cases h
        · cases h
      · cases h
    · cases h
  · cases h

/-- Other objects than the loops' records lie as they lay. -/
def NX (c : Cfg A) (β : Adr) (W W' : World) : Prop := ∀ (k : Nat) (o : Obj), W.heap[k]? = some o → o.isCells = false → (∀ s ∈ c.ys, β s.ix ≠ some k) → W'.heap[k]? = some o

/-- The calls of yield are right. -/
def YOK (c : Cfg A) : Prop :=
  ∀ (i : Nat) (args : List (TV A)) (rd : Nat) (m : Mem A) (pd : Pds) (b : Bool) (m' : Mem A) (pd' : Pds) (vc : List Prop), c.yf i args rd m pd = some (b, m', pd', vc) → (∀ p ∈ vc, p) →
    ∀ (X : Nat → Prop) (W0 W : World) (β : Adr) (vs : List Value), MRel c X W0 β m W → Top β m → YAll X W0 β c.ys pd W → TsIs β args vs → ∀ l, β i = some l →
      ∃ rec : Loop, W.heap[l]? = some (.loop rec) ∧ vs.length = rec.params.size ∧ ∀ (r : Option Nat) (n : Nat),
        RoundIn (Fr r) n c.P l rec.fn ((rec.params.zip vs.toArray).foldl (fun t (p, v) => t.setIfInBounds p v) rec.tmps) rec.assign rec.body W (fun e W' => e = .returned (.bool b) ∧
          ∃ β', Adr.le β β' ∧ MRel c X W0 β' m' W' ∧ Top β' m' ∧ YAll X W0 β' c.ys pd' W' ∧ NX c β W W')

/-- The functions that are ranged over are run rightly. -/
def ItsOK (c : Cfg A) : Prop :=
  ∀ (g : FuncId) (ys : List (Ys A)) (yf : YF A) (args : List (TV A)) (rd : Nat) (m : Mem A) (pd : Pds) (m' : Mem A) (pd' : Pds) (vc : List Prop), c.it g ys yf args rd m pd = some (m', pd', vc) → (∀ p ∈ vc, p) →
    ∀ c1 : Cfg A, c1.P = c.P → c1.gl = c.gl → c1.old = c.old → c1.ys = ys → c1.yf = yf → YOK c1 → ∀ (X : Nat → Prop) (W0 W : World) (β : Adr) (vs : List Value), MRel c1 X W0 β m W → Top β m → YAll X W0 β ys pd W → TsIs β args vs →
      (∀ args W, (callFunc g args).run c.P W = .ok (.enter g args) W) ∧
      Calls c.P g vs.toArray W (fun e W' => (∃ v, e = .returned v) ∧ ∃ β', Adr.le β β' ∧ MRel c1 X W0 β' m' W' ∧ Top β' m' ∧ YAll X W0 β' ys pd' W')

/-- Calls of whatever kind are right. -/
structure CfgOK (c : Cfg A) : Prop where
  calls : CallsOK c
  ys : YOK c
  its : ItsOK c

theorem capsTV_is {β : Adr} : ∀ {cap : List (Nat × Nat)} {vs : List Value}, capsIs β cap vs → TsIs (A := A) β (capsTV cap) vs
  | [], _, h => h
  | (_, _) :: _, _, ⟨b, r, h1, h2, e⟩ => ⟨_, r, LIs.of_single ⟨b, h1, rfl⟩, capsTV_is h2, e⟩

theorem TsIs.append {β : Adr} : ∀ {l r : List (TV A)} {x y}, TsIs β l x → TsIs β r y → TsIs β (l ++ r) (x ++ y)
  | [], _, _, _, e, h => by subst e; exact h
  | _ :: _, _, _, _, ⟨v, r, h1, h2, e⟩, h => by subst e; exact ⟨v, _, h1, TsIs.append h2 h, rfl⟩

/-- One operation, whatever it is. -/
theorem exec1_sound {c : Cfg A} (hc : CfgOK c) {X : Nat → Prop} {W0 W : World} {β : Adr} {st st' : St A} {a : Act} {o : Oper} {r : Option Nat} {n : Nat}
    (hr : Rel c X W0 β st a W) (h : exec1 c st o = some st') (hvc : ∀ p ∈ st'.vc, p) :
    Yld r n c.P o a W (fun v W' => ∃ β', Adr.le β β' ∧ Rel c X W0 β' st' (a.put o.dst v) W') := by
  obtain ⟨ht, hm, htop, hd, hyy⟩ := hr
  have plain : ∀ (tv : TV A) (vc : List Prop), opV c st o.op = some (tv, vc) → st' = putT { st with vc := (decT c st.rd o.dst tv).2 ++ (vc ++ st.vc) } o.dst (decT c st.rd o.dst tv).1 →
      Yld r n c.P o a W (fun v W' => ∃ β', Adr.le β β' ∧ Rel c X W0 β' st' (a.put o.dst v) W') := by
    intro tv vc hv hst
    subst hst
    have hpv : ∀ (s : St A) d v, (putT s d v).vc = s.vc := by intro s d v; cases d <;> rfl
    have hmm : ∀ (s : St A) d v, (putT s d v).m = s.m := by intro s d v; cases d <;> rfl
    have hpp : ∀ (s : St A) d v, (putT s d v).pd = s.pd := by intro s d v; cases d <;> rfl
    refine (opV_sound hc.calls ht hm hv (fun p hp => hvc p (by rw [hpv]; exact List.mem_append_right _ (List.mem_append_left _ hp)))).mono ?_
    rintro v W' ⟨K, hK, h1, h2⟩
    have h3 := decT_is (c := c) (rd := st.rd) (d := o.dst) h1 (fun p hp => hvc p (by rw [hpv]; exact List.mem_append_left _ hp))
    have hle := Adr.le_know β K
    refine ⟨β.know K, hle, TRel.put (st := { st with vc := (decT c st.rd o.dst tv).2 ++ (vc ++ st.vc) }) (ht.mono hle) h3, ?_, ?_, by rw [put_defers]; exact hd.mono hle, by rw [hpp]; exact hyy.kept hle h2.nc⟩
    · rw [hmm]; exact hm.know h2 hK
    · rw [hmm]; exact htop
  have pm : ∀ (s : St A) d v, (putT s d v).m = s.m := by intro s d v; cases d <;> rfl
  have pp : ∀ (s : St A) d v, (putT s d v).pd = s.pd := by intro s d v; cases d <;> rfl
  have callS : ∀ (g : FuncId) (l : List (TV A)) (vs : List Value), (∀ d, o.op ≠ .defer d) → (∀ W, (execOp a.eval o).run c.P W = (callFunc g vs.toArray).run c.P W) → TsIs β l vs → callX c st o.dst g l = some st' →
      Yld r n c.P o a W (fun v W' => ∃ β', Adr.le β β' ∧ Rel c X W0 β' st' (a.put o.dst v) W') := by
    intro g l vs hdf e hargs h
    have hpv : ∀ (s : St A) d v, (putT s d v).vc = s.vc := by intro s d v; cases d <;> rfl
    unfold callX at h
    split at h
    · rename_i v vc' hcall
      obtain rfl := Option.some.inj h
      have hvc' : ∀ p ∈ vc', p := fun p hp => hvc p (by rw [hpv]; exact List.mem_append_right _ (List.mem_append_left _ hp))
      have fin : ∀ u W', (∃ K, Fresh W W' K ∧ v.Is (β.know K) u ∧ Keeps W W') → ∃ β', Adr.le β β' ∧ Rel c X W0 β' (putT { st with vc := (decT c st.rd o.dst v).2 ++ (vc' ++ st.vc) } o.dst (decT c st.rd o.dst v).1) (a.put o.dst u) W' := by
        rintro u W' ⟨K, hK, k1, k2⟩
        have h3 := decT_is (c := c) (rd := st.rd) (d := o.dst) k1 (fun p hp => hvc p (by rw [hpv]; exact List.mem_append_left _ hp))
        have hle := Adr.le_know β K
        refine ⟨β.know K, hle, TRel.put (st := { st with vc := (decT c st.rd o.dst v).2 ++ (vc' ++ st.vc) }) (ht.mono hle) h3, ?_, ?_, by rw [put_defers]; exact hd.mono hle, by rw [pp]; exact hyy.kept hle k2.nc⟩
        · rw [pm]; exact hm.know k2 hK
        · rw [pm]; exact htop
      rcases hc.calls g l st.m v none vc' hcall hvc' X W0 W β _ hm hargs with ⟨u, h1, h2⟩ | ⟨h1, h2⟩
      · exact yld_value hdf (by rw [e]; exact h1) (fin _ _ h2)
      · refine yld_enter hdf (by rw [e]; exact h1) (h2.mono ?_)
        rintro e W' ⟨u, rfl, hu⟩
        exact ⟨u, rfl, fin _ _ hu⟩
    · rename_i v m' vc' hcall
      obtain rfl := Option.some.inj h
      have hvc' : ∀ p ∈ vc', p := fun p hp => hvc p (by rw [hpv]; exact List.mem_append_right _ (List.mem_append_left _ hp))
      have fin : ∀ u W', (∃ β', Adr.le β β' ∧ v.Is β' u ∧ MRel c X W0 β' m' W' ∧ Top β' m' ∧ NC W W') →
          ∃ β', Adr.le β β' ∧ Rel c X W0 β' (putT { st with m := m', vc := (decT c st.rd o.dst v).2 ++ (vc' ++ st.vc) } o.dst (decT c st.rd o.dst v).1) (a.put o.dst u) W' := by
        rintro u W' ⟨β', k1, k2, k3, k4, k5⟩
        have h3 := decT_is (c := c) (rd := st.rd) (d := o.dst) k2 (fun p hp => hvc p (by rw [hpv]; exact List.mem_append_left _ hp))
        refine ⟨β', k1, ?_, ?_, ?_, by rw [put_defers]; exact hd.mono k1, by rw [pp]; exact hyy.kept k1 k5⟩
        · have ht' : TRel β' st.t a := ht.mono k1
          exact TRel.put (st := { st with m := m', vc := (decT c st.rd o.dst v).2 ++ (vc' ++ st.vc) }) ht' h3
        · rw [pm]; exact k3
        · rw [pm]; exact k4
      rcases (hc.calls g l st.m v (some m') vc' hcall hvc' X W0 W β _ hm hargs) htop with ⟨u, h1, h2⟩ | ⟨h1, h2⟩
      · exact yld_value hdf (by rw [e]; exact h1) (fin _ _ h2)
      · refine yld_enter hdf (by rw [e]; exact h1) (h2.mono ?_)
        rintro e W' ⟨u, rfl, hu⟩
        exact ⟨u, rfl, fin _ _ hu⟩
    · cases h
  cases hop : o.op with
  | alloc t =>
    unfold exec1 at h
    rw [hop] at h
    simp only at h
    split at h
    · rename_i cells hz
      obtain rfl := Option.some.inj h
      obtain ⟨z, hz1, hz2⟩ := run_zeroT (P := c.P) (w := W) (β := β) hz
      refine yld_value (v := .pointer (some ⟨W.heap.size, 0, none⟩)) (W' := W.alloc (.cells z.cells t)) (by simp [hop]) ?_ ?_
      · simp [execOp, hop, Instr.alloc, hz1, newVar, newRow]
      · have hk := (htop st.m.length (Nat.le_refl _)).1
        have h1 := hm.alloc (t := t) (m' := st.m ++ [some ⟨cells, t, false⟩]) hk hz2 append_cases
        refine ⟨β.put st.m.length W.heap.size, Adr.le_put hk, ?_, ?_, ?_, by rw [put_defers]; exact hd.mono (Adr.le_put hk), by rw [pp]; exact hyy.kept (Adr.le_put hk) (Keeps.alloc W _).nc⟩
        · have ht' : TRel (β.put st.m.length W.heap.size) st.t a := ht.mono (Adr.le_put hk)
          exact TRel.put (st := { st with m := st.m ++ [some ⟨cells, t, false⟩] }) ht' (LIs.of_single ⟨W.heap.size, by simp [Adr.put_at], rfl⟩)
        · rw [pm]; simpa using h1
        · rw [pm]; exact htop.append
    · cases h
  | box t x =>
    unfold exec1 at h
    rw [hop] at h
    simp only at h
    split at h
    · rename_i xv hx
      split at h
      · rename_i cells hcl
        obtain rfl := Option.some.inj h
        have hz2 := cellsT_is (evO_is ht hm hx) hcl
        refine yld_value (v := .pointer (some ⟨W.heap.size, 0, none⟩)) (W' := W.alloc (.cells (a.eval x).cells t)) (by simp [hop]) ?_ ?_
        · simp [execOp, hop, Instr.box, newVar, newRow]
        · have hk := (htop st.m.length (Nat.le_refl _)).1
          have h1 := hm.alloc (t := t) (m' := st.m ++ [some ⟨cells, t, false⟩]) hk hz2 append_cases
          refine ⟨β.put st.m.length W.heap.size, Adr.le_put hk, ?_, ?_, ?_, by rw [put_defers]; exact hd.mono (Adr.le_put hk), by rw [pp]; exact hyy.kept (Adr.le_put hk) (Keeps.alloc W _).nc⟩
          · have ht' : TRel (β.put st.m.length W.heap.size) st.t a := ht.mono (Adr.le_put hk)
            exact TRel.put (st := { st with m := st.m ++ [some ⟨cells, t, false⟩] }) ht' (LIs.of_single ⟨W.heap.size, by simp [Adr.put_at], rfl⟩)
          · rw [pm]; simpa using h1
          · rw [pm]; exact htop.append
      · cases h
    · cases h
  | buildSlice t len parts =>
    unfold exec1 at h
    rw [hop] at h
    simp only at h
    split at h
    · rename_i e hu
      split at h
      · rename_i sz z hs hz
        split at h
        · rename_i hle
          split at h
          · rename_i hzl
            split at h
            · rename_i cells hf
              obtain rfl := Option.some.inj h
              obtain ⟨zv, hz1, hz2⟩ := run_zeroT (P := c.P) (w := W) (β := β) hz
              obtain ⟨us, hu1, hu2⟩ := fillV_run ht hm hf (hz2.replicate len)
              have hk := (htop st.m.length (Nat.le_refl _)).1
              refine yld_value (v := .slice (some ⟨W.heap.size, 0, none⟩) len len) (W' := W.alloc (.cells us.toArray e)) (by simp [hop]) ?_ ?_
              · have hzv : zv.cells.toList.length = sz + 1 := by
                  have hone : lsize z = z.length := by
                    unfold zeroT at hz
                    split at hz
                    · split at hz
                      · split at hz
                        · rename_i v _ _
                          simp at hz; subst hz
                          generalize v.cells.toList = l
                          induction l with
                          | nil => rfl
                          | cons x l ih => simp [lsize, SV.size, ih]; omega
                        · cases hz
                      · cases hz
                    · cases hz
                  rw [hz2.len, hone, hzl]
                have e3 : (parts.map fun x => (x.1, a.eval x.2)).toList = parts.toList.map fun x => (x.1, a.eval x.2) := by simp
                have e4 := flat_cells hzv len
                have e5 : (Array.range (len * (sz + 1))).map (fun i => zv.cells[i % zv.cells.size]!) = ((List.replicate len zv.cells.toList).flatten).toArray := by
                  apply Array.toList_inj.1
                  rw [← e4]
                have hno : ¬ (len * (sz + 1) > 2 ^ 24) := by omega
                simp only [execOp, hop, Instr.buildSlice, Sem.run_bind, run_underlying hu, Result.andThen_ok, run_sizeT hs, Sem.run_ite, if_neg hno]
                by_cases h0 : len * (sz + 1) = 0
                · simp only [h0, if_true, Sem.run_pure, Result.andThen_ok]
                  have hl0 : len = 0 := by
                    rcases Nat.mul_eq_zero.1 h0 with h0 | h0
                    · exact h0
                    · omega
                  subst hl0
                  simp only [List.replicate_zero, List.flatten_nil] at hu1
                  rw [e3]
                  have e6 : ((Array.range 0).map (fun i => (#[] : Array Value)[i % (#[] : Array Value).size]!)) = #[] := by simp
                  rw [e6, hu1]
                  simp [newRow]
                · simp only [h0, if_false, hz1, Result.andThen_ok, Sem.run_pure]
                  rw [e5, e3, hu1]
                  simp [newRow]
              · have h1 := hm.alloc (t := e) (m' := st.m ++ [some ⟨cells, e, false⟩]) hk hu2 append_cases
                refine ⟨β.put st.m.length W.heap.size, Adr.le_put hk, ?_, ?_, ?_, by rw [put_defers]; exact hd.mono (Adr.le_put hk), by rw [pp]; exact hyy.kept (Adr.le_put hk) (Keeps.alloc W _).nc⟩
                · have ht' : TRel (β.put st.m.length W.heap.size) st.t a := ht.mono (Adr.le_put hk)
                  exact TRel.put (st := { st with m := st.m ++ [some ⟨cells, e, false⟩] }) ht' (LIs.of_single ⟨W.heap.size, by simp [Adr.put_at], rfl⟩)
                · rw [pm]; exact h1
                · rw [pm]; exact htop.append
            · cases h
          · cases h
        · cases h
      · cases h
    · cases h
  | store t x y =>
    unfold exec1 at h
    rw [hop] at h
    simp only at h
    split at h
    · rename_i xv yv hx hy
      split at h
      · rename_i m' hs
        obtain rfl := Option.some.inj h
        obtain ⟨W', h1, h2, h3, h4⟩ := storeV_run hm hs (evO_is ht hm hx) (evO_is ht hm hy)
        refine yld_skip (W' := W') (by simp [hop]) ?_ ?_
        · simp [execOp, hop, h1]
        · refine ⟨β, Adr.le_refl β, ?_, ?_, ?_, by rw [put_defers]; exact hd, by rw [pp]; exact hyy.kept (Adr.le_refl β) h4⟩
          · exact TRel.put (st := { st with m := m' }) ht (undefT_is β)
          · rw [pm]; exact h2
          · rw [pm]; exact h3 htop
      · cases h
    · cases h
  | call cl =>
    obtain ⟨callee, args, ats⟩ := cl
    cases callee with
    | value f =>
      cases f with
      | func g =>
        unfold exec1 at h
        rw [hop] at h
        simp only at h
        split at h
        · rename_i l hl
          have hargs := evL_is ht hm hl
          have e : ∀ W, (execOp a.eval o).run c.P W = (callFunc g (args.toList.map a.eval).toArray).run c.P W := by
            intro W
            have e : args.map a.eval = (args.toList.map a.eval).toArray := Array.toList_inj.1 (by simp)
            rw [← e]
            simp [execOp, hop, resolve, Deferred.ofValue, Act.eval, invoke]
          exact callS g l _ (by simp [hop]) e hargs h
        · cases h
      | tmp x =>
        unfold exec1 at h
        rw [hop] at h
        simp only at h
        split at h
        · rename_i i l hx hl
          have hargs := evL_is ht hm hl
          obtain ⟨lb, hb, ev⟩ := LIs.single (evO_is ht hm (x := .tmp x) hx : LIs β _ [a.eval (.tmp x)])
          simp at ev
          split at h
          · rename_i b m' pd' vc' hyf
            obtain rfl := Option.some.inj h
            have hpv : ∀ (s : St A) d v, (putT s d v).vc = s.vc := by intro s d v; cases d <;> rfl
            obtain ⟨rec, h1, h2, h3⟩ := hc.ys i l st.rd st.m st.pd b m' pd' vc' hyf (fun p hp => hvc p (by rw [hpv]; exact List.mem_append_left _ hp)) X W0 W β _ hm htop hyy hargs lb hb
            have e : args.map a.eval = (args.toList.map a.eval).toArray := Array.toList_inj.1 (by simp)
            intro next Q hn
            refine ⟨fun _ _ => trivial, ?_⟩
            rw [Oper.semAt_eq _ _ _ (by simp [hop])]
            have hrun : (execOp a.eval o).run c.P W = .ok (.round lb rec.fn ((rec.params.zip (args.toList.map a.eval).toArray).foldl (fun t (p, v) => t.setIfInBounds p v) rec.tmps) rec.assign rec.body) W := by
              rw [← run_yield (P := c.P) h1 (by simpa using h2), ← e]
              simp [execOp, hop, resolve, Deferred.ofValue, ev, invoke]
            rw [hrun, Oper.uponIn_round]
            refine ⟨fun hx => by simp [Fr, Fence.wide] at hx, (h3 r (n - 1)).mono ?_⟩
            rintro e' W' ⟨rfl, β', k1, k2, k3, k4, _⟩
            refine hn _ W' ⟨β', k1, ?_, ?_, ?_, by rw [put_defers]; exact hd.mono k1, ?_⟩
            · exact TRel.put (st := { st with m := m', pd := pd', vc := vc' ++ st.vc }) (ht.mono k1) (LIs.of_single ⟨rfl, rfl⟩)
            · rw [pm]; exact k2
            · rw [pm]; exact k3
            · rw [pp]; exact k4
          · cases h
        · rename_i g cap l hx hl
          have hargs := evL_is ht hm hl
          obtain ⟨cs, hcs, ev⟩ := LIs.single (evO_is ht hm (x := .tmp x) hx : LIs β _ [a.eval (.tmp x)])
          simp at ev
          have e : ∀ W, (execOp a.eval o).run c.P W = (callFunc g (args.toList.map a.eval ++ cs).toArray).run c.P W := by
            intro W
            have e : args.map a.eval ++ cs.toArray = (args.toList.map a.eval ++ cs).toArray := Array.toList_inj.1 (by simp)
            rw [← e]
            simp [execOp, hop, resolve, Deferred.ofValue, ev, invoke]
          exact callS g _ _ (by simp [hop]) e (hargs.append (capsTV_is hcs)) h
        · cases h
      | _ =>
        unfold exec1 at h
        rw [hop] at h
        simp only [opV] at h
        cases h
    | builtin b =>
      unfold exec1 at h
      rw [hop] at h
      simp only at h
      split at h
      · rename_i v vc hv
        obtain rfl := Option.some.inj h
        exact plain v vc (by rw [hop]; exact hv) rfl
      · cases h
    | invoke rr mm =>
      unfold exec1 at h
      rw [hop] at h
      simp only [opV] at h
      cases h
  | _ =>
    unfold exec1 at h
    rw [hop] at h
    simp only at h
    split at h
    · rename_i v vc hv
      obtain rfl := Option.some.inj h
      exact plain v vc (by rw [hop]; exact hv) rfl
    · cases h

end
end Go.Sh

/- Rows of operations in their order, and regions that draw their order. -/
namespace Go.Sh
open Go.RowKit

section
variable {A : Type} [Atom A]

theorem wants_is {β : Adr} {st : St A} {a : Act} {ops : Array Oper} {o : Oper} {b : Bool} (ht : TRel β st.t a)
    (h : wants ops.toList st o = some b) : Region.wanted o (yielded ops a.tmps) = b := by
  unfold wants at h
  unfold Region.wanted
  split at h
  · rename_i hg
    simp at h
    subst h
    simp [hg]
  · rename_i j want hg
    simp only [hg]
    split at h
    · rename_i oj hj
      split at h
      · rename_i d hd
        rw [nth_eq] at hj
        have hj' : ops[j]? = some oj := by simpa using hj
        have key : ∀ (tv : TV A), nth st.t d = some tv → ∃ v, a.tmps[d]? = some v ∧ tv.Is β v := by
          intro tv e
          obtain ⟨v, hv, hi⟩ := ht.tmps.nth e
          exact ⟨v, by simpa using hv, hi⟩
        split at h
        · rename_i he
          obtain ⟨v, hv, hi⟩ := key _ he
          obtain ⟨vs, h1, rfl⟩ := hi
          simp at h
          subst h
          simp [yielded, hj', hd, hv]
        · rename_i tv hne he
          obtain ⟨v, hv, hi⟩ := key _ he
          split at h
          · rename_i b' hb
            simp at h
            subst h
            have := boolOf_is hi hb
            subst this
            simp [yielded, hj', hd, hv]
          · cases h
        · cases h
      · cases h
    · cases h

omit [Atom A] in
theorem putT_vc (s : St A) (d : Option Tmp) (v : TV A) : (putT s d v).vc = s.vc := by cases d <;> rfl
omit [Atom A] in
theorem putT_m (s : St A) (d : Option Tmp) (v : TV A) : (putT s d v).m = s.m := by cases d <;> rfl
omit [Atom A] in
theorem putT_rd (s : St A) (d : Option Tmp) (v : TV A) : (putT s d v).rd = s.rd := by cases d <;> rfl
omit [Atom A] in
theorem putT_pd (s : St A) (d : Option Tmp) (v : TV A) : (putT s d v).pd = s.pd := by cases d <;> rfl

theorem execOps_vc {c : Cfg A} {ops : List Oper} : ∀ {l : List Oper} {st st' : St A}, execOps c ops l st = some st' → ∀ p ∈ st.vc, p ∈ st'.vc
  | [], st, st', h => by simp [execOps] at h; subst h; exact fun _ h => h
  | o :: rest, st, st', h => by
    simp only [execOps] at h
    split at h
    · split at h
      · rename_i st1 h1
        intro p hp
        exact execOps_vc h p (exec1_vc h1 p hp)
      · cases h
    · intro p hp
      exact execOps_vc h p (by rw [putT_vc]; exact hp)
    · cases h

theorem execOps_sound {c : Cfg A} (hc : CfgOK c) {X : Nat → Prop} {W0 : World} {ops : Array Oper} {r : Option Nat} {n : Nat} {Q : Exit → Act → World → Prop} :
    ∀ {l : List Oper} {st st' : St A} {β : Adr} {a : Act} {W : World}, execOps c ops.toList l st = some st' → (∀ p ∈ st'.vc, p) → Rel c X W0 β st a W →
      (∀ β' a' W', Adr.le β β' → Rel c X W0 β' st' a' W' → Q .normal a' W') → wpListIn (Fr r) n c.P ops Q l a W
  | [], st, st', β, a, W, h, _, hr, hQ => by
    simp [execOps] at h; subst h
    exact hQ β a W (Adr.le_refl β) hr
  | o :: rest, st, st', β, a, W, h, hvc, hr, hQ => by
    simp only [execOps] at h
    split at h
    · rename_i hw
      split at h
      · rename_i st1 h1
        have hv1 : ∀ p ∈ st1.vc, p := fun p hp => hvc p (execOps_vc h p hp)
        have hwant := wants_is (ops := ops) hr.t hw
        refine wpListIn_step fun K hK => ?_
        rw [if_pos hwant]
        refine exec1_sound (r := r) (n := n) hc hr h1 hv1 K Q ?_
        rintro v W' ⟨β', hle, hr'⟩
        exact hK _ _ (execOps_sound hc h hvc hr' (fun β'' a'' W'' hle' hr'' => hQ β'' a'' W'' (Adr.le_trans hle hle') hr''))
      · cases h
    · rename_i hw
      have hwant := wants_is (ops := ops) hr.t hw
      refine wpListIn_step fun K hK => ?_
      rw [if_neg (by rw [hwant]; simp)]
      refine ⟨fun _ _ => trivial, hK _ _ (execOps_sound hc h hvc (β := β) ⟨?_, ?_, ?_, by rw [put_defers]; exact hr.d, by rw [putT_pd]; exact hr.y⟩ hQ)⟩
      · exact TRel.put hr.t (undefT_is β)
      · rw [putT_m]; exact hr.m
      · rw [putT_m]; exact hr.top
    · cases h

/-! ### A region that draws its order: a head whose operations only read (or lay new blocks), in whatever order; behind it a tail, in its order. -/

/-- May an operation stand in a head? -/
def headOp : Op → Bool
  | .alloc _ | .move _ | .pick .. | .fieldAddr .. | .field .. | .indexAddr .. | .index .. | .load .. | .extract .. | .binOp .. | .unOp .. | .convert .. | .build .. | .slice .. | .makeFunc .. | .buildSlice .. => true
  | .call { callee := .value (.func _), args := _, argTypes := _ } => true
  | .call { callee := .builtin .len, args := _, argTypes := _ } => true
  | .call { callee := .builtin .max, args := _, argTypes := _ } => true
  | .call { callee := .builtin .min, args := _, argTypes := _ } => true
  | _ => false

def headLen : List Oper → Nat
  | [] => 0
  | o :: l => if headOp o.op then headLen l + 1 else 0

def waits (o : Oper) (j : Nat) : Bool := o.after.toList.any fun e => Region.binds .any e && e.on == j

/-- The slots that an operation looks at. -/
def looks (ops : List Oper) (o : Oper) : List Nat :=
  o.op.operands.toList.filterMap (fun | .tmp t => some t | _ => none) ++
  (match o.guard with | some (j, _) => (match nth ops j with | some oj => oj.dst.toList | none => []) | none => [])

/-- What operation i of the head looks at comes from ahead of the region, or of an operation that it waits for. (ds: the slots that the head writes, with the operations' numbers.) -/
def readsOK (ops : List Oper) (ds : List (Nat × Nat)) (i : Nat) (o : Oper) : Bool :=
  (looks ops o).all fun x => ds.all fun (d, j) => d != x || (decide (j < i) && waits o j)

def dsts : List Oper → Nat → List (Nat × Nat)
  | [], _ => []
  | o :: l, i =>
    match o.dst with
    | some d => (d, i) :: dsts l (i + 1)
    | none => dsts l (i + 1)

def pairsApart : List (Nat × Nat) → Bool
  | [] => true
  | (d, _) :: l => l.all (fun (e, _) => d != e) && pairsApart l

def readsAll (ops : List Oper) (ds : List (Nat × Nat)) : List Oper → Nat → Bool
  | [], _ => true
  | o :: l, i => readsOK ops ds i o && readsAll ops ds l (i + 1)

def edgesBack : List Oper → Nat → Bool
  | [], _ => true
  | o :: l, i => (o.after.toList.all fun e => !Region.binds .any e || decide (e.on < i)) && edgesBack l (i + 1)

/-- Does an operation look at no memory? -/
def pureOp : Op → Bool
  | .move _ | .pick .. | .fieldAddr .. | .field .. | .indexAddr .. | .index .. | .extract .. | .binOp .. | .unOp .. | .convert .. | .build .. | .slice .. | .makeFunc .. => true
  | _ => false

/-- May an operation of the tail come up ahead of one of the head that looks at no memory? -/
def simpleOp : Op → Bool
  | .store .. => true
  | .assign _ => true
  | op => pureOp op

/-- The first operation of a list that waits for operation i. -/
def firstWait : List Oper → Nat → Nat → Nat
  | [], _, k => k
  | o :: l, i, k => if waits o i then k else firstWait l i (k + 1)

def lateK (ops : List Oper) (n i : Nat) : Nat := firstWait (ops.drop (n + 1)) i (n + 1)

/-- Operation o (number i) of the head looks at no memory, and minds none of the tail's ahead of the first that waits for it: it may come up late. -/
def lateO (ops : List Oper) (n i : Nat) (o : Oper) : Bool :=
  pureOp o.op && o.guard.isNone &&
  ((ops.drop n).take (lateK ops n i - n)).all fun m => simpleOp m.op && m.guard.isNone &&
    (match m.dst with | some dm => (match o.dst with | some d => d != dm | none => true) && (looks ops o).all (fun x => x != dm) | none => true) &&
    (match o.dst with | some d => (looks ops m).all (fun x => x != d) | none => true)

def lateB (ops : List Oper) (n i : Nat) : Bool :=
  match nth ops i with
  | some o => lateO ops n i o
  | none => false

/-- Each operation of the head that may not be late is waited for by a later such one of the head or by the tail's first; each of the tail behind the first waits for the one ahead of it. -/
def sinks (ops : List Oper) (n : Nat) : Bool :=
  ((List.range n).all fun i => lateB ops n i || ((List.range (n - i)).any fun k => (Nat.beq (i + 1 + k) n || !lateB ops n (i + 1 + k)) && (match nth ops (i + 1 + k) with | some o => waits o i | none => false))) &&
  ((List.range (ops.length - n - 1)).all fun k => match nth ops (n + k + 1) with | some o => waits o (n + k) | none => false)

def drawOK (ops : List Oper) (n : Nat) : Bool :=
  let ds := dsts (ops.take n) 0
  (ops.take n).all (fun o => o.dst.isSome) && pairsApart ds && readsAll ops ds (ops.take n) 0 && edgesBack ops 0 && (decide (n = ops.length) || sinks ops n)

/-- The head, in the text's order; memory is read as it was ahead of it; new blocks are laid behind one another. -/
def execHead (c : Cfg A) (ops : List Oper) (m0 : Mem A) (rd : Nat) : List Oper → List (TV A) → Mem A → List Prop → Option (List (TV A) × Mem A × List Prop)
  | [], t, new, vc => some (t, new, vc)
  | o :: rest, t, new, vc =>
    match o.dst with
    | none => none
    | some d =>
      if d < t.length then
        match o.op with
        | .alloc ty =>
          match o.guard, zeroT c.P ty with
          | none, some cells => execHead c ops m0 rd rest (setN t d (.val false [.p (m0.length + new.length) 0])) (new ++ [some ⟨cells, ty, false⟩]) vc
          | _, _ => none
        | op =>
          match wants ops ⟨t, m0, rd, [], []⟩ o with
          | some true =>
            match opV c ⟨t, m0, rd, [], []⟩ op with
            | some (v, vc2) => execHead c ops m0 rd rest (setN t d (decT c rd (some d) v).1) new ((decT c rd (some d) v).2 ++ (vc2 ++ vc))
            | none => none
          | some false => execHead c ops m0 rd rest (setN t d undefT) new vc
          | none => none
      else none

def execDraw (c : Cfg A) (ops : List Oper) (st : St A) : Option (St A) :=
  let n := headLen ops
  if drawOK ops n && c.P.follows .mixedOrders then
    match execHead c ops st.m st.rd (ops.take n) st.t [] st.vc with
    | some (t, new, vc) => execOps c ops (ops.drop n) ⟨t, st.m ++ new, st.rd, vc, st.pd⟩
    | none => none
  else none

end
end Go.Sh

/- A region that draws its order comes to what its text's order comes to, whatever order is drawn. -/
namespace Go.Sh
open Go.RowKit

section
variable {A : Type} [Atom A]

theorem fillV_congr {place : Nat → Option (Nat × Nat)} {c : Cfg A} {st st' : St A} : ∀ {parts : List (Nat × Operand)} {cells : List (SV A)}, (∀ x ∈ parts, evO c st x.2 = evO c st' x.2) →
    fillV place c st cells parts = fillV place c st' cells parts
  | [], _, _ => rfl
  | (i, x) :: rest, cells, h => by
    have h1 := h (i, x) (by simp)
    simp only at h1
    have ih := fun cells => fillV_congr (place := place) (c := c) (st := st) (st' := st') (parts := rest) (cells := cells) (fun y hy => h y (by simp [hy]))
    simp only [fillV, h1]
    split
    · split
      · split
        · split
          · exact ih _
          · rfl
        · rfl
      · rfl
    · rfl

omit [Atom A] in
theorem evL_congr {c : Cfg A} {st st' : St A} : ∀ {l : List Operand}, (∀ x ∈ l, evO c st x = evO c st' x) → evL c st l = evL c st' l
  | [], _ => rfl
  | x :: l, h => by
    simp only [evL, h x (by simp), evL_congr (l := l) (fun y hy => h y (by simp [hy]))]

omit [Atom A] in
theorem bndO_congr {c : Cfg A} {st st' : St A} {y d : Nat} {o : Option Operand} (h : ∀ x, o = some x → evO c st x = evO c st' x) : bndO c st y d o = bndO c st' y d o := by
  cases o with
  | none => rfl
  | some x => simp only [bndO, h x rfl]

theorem bndE_congr {c : Cfg A} {st st' : St A} {y d : Nat} {o : Option Operand} (h : ∀ x, o = some x → evO c st x = evO c st' x) : bndE c st y d o = bndE c st' y d o := by
  cases o with
  | none => rfl
  | some x => simp only [bndE, h x rfl]

theorem opV_congr {c : Cfg A} {st st' : St A} {op : Op} (hm : pureOp op = false → st.m = st'.m) (h : ∀ x ∈ op.operands, evO c st x = evO c st' x) : opV c st op = opV c st' op := by
  cases op with
  | move x => simp only [opV, h x (by simp [Op.operands])]
  | assign x => simp only [opV, h x (by simp [Op.operands])]
  | pick q x y =>
    have e1 := h q (by simp [Op.operands])
    have e2 := h x (by simp [Op.operands])
    have e3 := h y (by simp [Op.operands])
    simp only [opV, e1]
    split
    · split
      · rename_i b _
        cases b
        · simp only [Bool.false_eq_true, if_false, e3]
        · simp only [if_true, e2]
      · rfl
    · rfl
  | fieldAddr t x f => simp only [opV, h x (by simp [Op.operands])]
  | field t x f => simp only [opV, h x (by simp [Op.operands])]
  | indexAddr t x ix => simp only [opV, h x (by simp [Op.operands]), h ix (by simp [Op.operands])]
  | index t x ix => simp only [opV, h x (by simp [Op.operands]), h ix (by simp [Op.operands])]
  | load t x => simp only [opV, h x (by simp [Op.operands]), hm rfl]
  | extract x i => simp only [opV, h x (by simp [Op.operands])]
  | binOp o t x y yt => simp only [opV, h x (by simp [Op.operands]), h y (by simp [Op.operands])]
  | unOp o t x => simp only [opV, h x (by simp [Op.operands])]
  | convert s d x => simp only [opV, h x (by simp [Op.operands])]
  | build t parts =>
    have e := fun place cells => fillV_congr (place := place) (c := c) (st := st) (st' := st') (parts := parts.toList) (cells := cells) (fun x hx => h x.2 (by
      simp only [Op.operands, List.mem_toArray, List.mem_map]
      exact ⟨x, hx, rfl⟩))
    simp only [opV, e]
  | buildSlice t len parts =>
    have e := fun place cells => fillV_congr (place := place) (c := c) (st := st) (st' := st') (parts := parts.toList) (cells := cells) (fun x hx => h x.2 (by
      simp only [Op.operands, List.mem_toArray, List.mem_map]
      exact ⟨x, hx, rfl⟩))
    simp only [opV, e]
  | slice t x lo hi mx =>
    have e1 := h x (by simp [Op.operands])
    have e2 : ∀ y, lo = some y → evO c st y = evO c st' y := fun y hy => h y (by subst hy; simp [Op.operands])
    have e3 : ∀ y, hi = some y → evO c st y = evO c st' y := fun y hy => h y (by subst hy; simp [Op.operands])
    have e4 : ∀ y, mx = some y → evO c st y = evO c st' y := fun y hy => h y (by subst hy; simp [Op.operands])
    have e5 : ∀ i off len cap e, sliceV c st i off len cap e lo hi mx = sliceV c st' i off len cap e lo hi mx := by
      intro i off len cap e
      simp only [sliceV, bndO_congr e2, bndO_congr e3, bndO_congr e4]
    have e6 : ∀ ad f i len cap e, sliceE c st ad f i len cap e lo hi mx = sliceE c st' ad f i len cap e lo hi mx := by
      intro ad f i len cap e
      simp only [sliceE, bndE_congr e2, bndE_congr e3, bndE_congr e4]
    have e7 : ∀ n, boundsH c st n lo hi mx = boundsH c st' n lo hi mx := by
      intro n
      simp only [boundsH, bndE_congr e2, bndE_congr e3, bndE_congr e4]
    simp only [opV, e1, e5, e6, e7]
  | makeFunc fn first captured =>
    cases fn with
    | func g =>
      have e := evL_congr (c := c) (st := st) (st' := st') (l := captured.toList) (fun x hx => h x (by
        simp only [Op.operands, Array.mem_append]
        exact .inr (by simpa using hx)))
      simp only [opV, e]
    | _ => rfl
  | call cl =>
    obtain ⟨callee, args, ats⟩ := cl
    have e := evL_congr (c := c) (st := st) (st' := st') (l := args.toList) (fun x hx => h x (by
      simp only [Op.operands, Call.operands, Array.mem_append]
      exact .inr (by simpa using hx)))
    cases callee with
    | value f => cases f <;> first | rfl | (simp only [opV, e, hm rfl])
    | builtin b => cases b <;> first | rfl | (simp only [opV, e])
    | invoke r m => rfl
  | _ => rfl

omit [Atom A] in
theorem wants_congr {st st' : St A} {ops : List Oper} {o : Oper} (h : ∀ j w oj d, o.guard = some (j, w) → nth ops j = some oj → oj.dst = some d → nth st.t d = nth st'.t d) :
    wants ops st o = wants ops st' o := by
  unfold wants
  split
  · rfl
  · rename_i j w hg
    split
    · rename_i oj hj
      split
      · rename_i d hd
        rw [h j w oj d hg hj hd]
      · rfl
    · rfl

def isAlloc : Op → Bool
  | .alloc _ => true
  | _ => false

/-- How many new blocks are laid ahead of operation i. -/
def cnt (l : List Oper) (i : Nat) : Nat := ((l.take i).filter fun o => isAlloc o.op).length

theorem cnt_succ {l : List Oper} {i : Nat} {o : Oper} (h : l[i]? = some o) : cnt l (i + 1) = cnt l i + (if isAlloc o.op then 1 else 0) := by
  unfold cnt
  obtain ⟨hi, rfl⟩ := List.getElem?_eq_some_iff.1 h
  rw [List.take_succ_eq_append_getElem hi, List.filter_append, List.length_append]
  congr 1
  simp only [List.filter_cons, List.filter_nil]
  split <;> rfl

theorem cnt_mono {l : List Oper} {i j : Nat} (h : i ≤ j) : cnt l i ≤ cnt l j := by
  unfold cnt
  have : l.take i = (l.take j).take i := by rw [List.take_take]; congr 1; omega
  rw [this]
  exact ((List.take_sublist i (l.take j)).filter _).length_le

theorem cnt_lt {l : List Oper} {i j : Nat} {o : Oper} (h : l[i]? = some o) (ha : isAlloc o.op = true) (hij : i < j) : cnt l i < cnt l j := by
  have h1 := cnt_succ h
  rw [if_pos ha] at h1
  have := cnt_mono (l := l) (i := i + 1) (j := j) hij
  omega

theorem cnt_surj {l : List Oper} : ∀ {n s : Nat}, s < cnt l n → ∃ i o, i < n ∧ l[i]? = some o ∧ isAlloc o.op = true ∧ cnt l i = s
  | 0, s, h => by simp [cnt] at h
  | n + 1, s, h => by
    rcases Nat.lt_or_ge s (cnt l n) with h' | h'
    · obtain ⟨i, o, h1, h2⟩ := cnt_surj h'
      exact ⟨i, o, by omega, h2⟩
    · cases ho : l[n]? with
      | none =>
        have : cnt l (n + 1) = cnt l n := by
          unfold cnt
          have hlen := List.getElem?_eq_none_iff.1 ho
          rw [List.take_of_length_le (by omega), List.take_of_length_le (by omega)]
        omega
      | some o =>
        have h1 := cnt_succ ho
        split at h1
        · rename_i ha
          exact ⟨n, o, by omega, ho, ha, by omega⟩
        · omega

/-- What the head's operation i came to, in the text's order. -/
def HeadFact (c : Cfg A) (L : List Oper) (m0 : Mem A) (rd : Nat) (T : List (TV A)) (New : Mem A) (VC : List Prop) (i : Nat) (o : Oper) (d : Nat) (ti : List (TV A)) : Prop :=
  (∃ ty cells, o.op = .alloc ty ∧ o.guard = none ∧ zeroT c.P ty = some cells ∧ nth New (cnt L i) = some (some ⟨cells, ty, false⟩) ∧ nth T d = some (.val false [.p (m0.length + cnt L i) 0])) ∨
  (isAlloc o.op = false ∧ ∃ b, wants L ⟨ti, m0, rd, [], []⟩ o = some b ∧
    (b = true → ∃ v vc2, opV c ⟨ti, m0, rd, [], []⟩ o.op = some (v, vc2) ∧ (∀ p ∈ vc2, p ∈ VC) ∧ (∀ p ∈ (decT c rd (some d) v).2, p ∈ VC) ∧ nth T d = some (decT c rd (some d) v).1) ∧ (b = false → nth T d = some undefT))

/-- The slots that operations k .. n - 1 write are apart. -/
def Apart (L : List Oper) (n : Nat) : Prop := ∀ i j oi oj d, i < n → j < n → L[i]? = some oi → L[j]? = some oj → oi.dst = some d → oj.dst = some d → i = j

theorem head_lex {c : Cfg A} {L : List Oper} {m0 : Mem A} {rd n : Nat} (hap : Apart L n) (hn : n ≤ L.length) :
    ∀ (f k : Nat) (t : List (TV A)) (new : Mem A) (vc : List Prop) (T : List (TV A)) (New : Mem A) (VC : List Prop), n - k = f → k ≤ n → new.length = cnt L k →
      execHead c L m0 rd ((L.take n).drop k) t new vc = some (T, New, VC) →
      T.length = t.length ∧ New.length = cnt L n ∧ (∀ s, s < new.length → nth New s = nth new s) ∧ (∀ p ∈ vc, p ∈ VC) ∧
      (∀ x, (∀ j o, k ≤ j → j < n → L[j]? = some o → o.dst ≠ some x) → nth T x = nth t x) ∧
      (∀ i o, k ≤ i → i < n → L[i]? = some o → ∃ d, o.dst = some d ∧ d < t.length ∧ ∃ ti, ti.length = t.length ∧
        (∀ j oj dj, k ≤ j → j < i → L[j]? = some oj → oj.dst = some dj → nth ti dj = nth T dj) ∧
        (∀ x, (∀ j oj, k ≤ j → j < i → L[j]? = some oj → oj.dst ≠ some x) → nth ti x = nth t x) ∧ HeadFact c L m0 rd T New VC i o d ti) := by
  intro f
  induction f with
  | zero =>
    intro k t new vc T New VC hf hk hl h
    have : (L.take n).drop k = [] := List.drop_of_length_le (by simp; omega)
    rw [this] at h
    simp [execHead] at h
    obtain ⟨rfl, rfl, rfl⟩ := h
    obtain rfl : k = n := by omega
    exact ⟨rfl, hl, fun _ _ => rfl, fun _ h => h, fun _ _ => rfl, fun i o h1 h2 => by omega⟩
  | succ f ih =>
    intro k t new vc T New VC hf hk hl h
    have hkn : k < n := by omega
    have hkL : k < L.length := by omega
    obtain ⟨o, hok⟩ : ∃ o, L[k]? = some o := ⟨L[k], by simp [hkL]⟩
    have hdrop : (L.take n).drop k = o :: (L.take n).drop (k + 1) := by
      rw [List.drop_eq_getElem_cons (by simp; omega)]
      congr 1
      obtain ⟨_, e⟩ := List.getElem?_eq_some_iff.1 hok
      simpa using e
    rw [hdrop] at h
    simp only [execHead] at h
    split at h
    · cases h
    · rename_i d hd
      split at h
      · rename_i hdl
        -- what one step, whatever it is, hands on
        have step : ∀ (v : TV A) (new' : Mem A) (vc' : List Prop), new'.length = cnt L (k + 1) → (∀ s, s < new.length → nth new' s = nth new s) → (∀ p ∈ vc, p ∈ vc') →
            execHead c L m0 rd ((L.take n).drop (k + 1)) (setN t d v) new' vc' = some (T, New, VC) →
            ((∀ p ∈ vc', p ∈ VC) → (∀ s, s < new'.length → nth New s = nth new' s) → nth T d = some v → HeadFact c L m0 rd T New VC k o d t) →
            T.length = t.length ∧ New.length = cnt L n ∧ (∀ s, s < new.length → nth New s = nth new s) ∧ (∀ p ∈ vc, p ∈ VC) ∧
            (∀ x, (∀ j o, k ≤ j → j < n → L[j]? = some o → o.dst ≠ some x) → nth T x = nth t x) ∧
            (∀ i o, k ≤ i → i < n → L[i]? = some o → ∃ d, o.dst = some d ∧ d < t.length ∧ ∃ ti, ti.length = t.length ∧
              (∀ j oj dj, k ≤ j → j < i → L[j]? = some oj → oj.dst = some dj → nth ti dj = nth T dj) ∧
              (∀ x, (∀ j oj, k ≤ j → j < i → L[j]? = some oj → oj.dst ≠ some x) → nth ti x = nth t x) ∧ HeadFact c L m0 rd T New VC i o d ti) := by
          intro v new' vc' hnew hpre hvcs hex hfact
          obtain ⟨g1, g2, g3, g4, g5, g6⟩ := ih (k + 1) (setN t d v) new' vc' T New VC (by omega) (by omega) hnew hex
          rw [setN_length] at g1
          have hlen' : new.length ≤ new'.length := by rw [hl, hnew]; exact cnt_mono (by omega)
          have hTd : nth T d = some v := by
            rw [g5 d (fun j oj h1 h2 h3 h4 => by have := hap k j o oj d hkn h2 hok h3 hd h4; omega), nth_setN]
            simp [hdl]
          refine ⟨g1, g2, fun s hs => ?_, fun p hp => g4 p (hvcs p hp), fun x hx => ?_, fun i oi h1 h2 h3 => ?_⟩
          · rw [g3 s (by omega), hpre s hs]
          · rw [g5 x (fun j oj h1 h2 h3 => hx j oj (by omega) h2 h3), nth_setN, if_neg]
            intro e
            subst e
            exact hx k o (Nat.le_refl _) hkn hok hd
          · by_cases hik : i = k
            · subst hik
              have : oi = o := Option.some.inj (h3.symm.trans hok)
              subst this
              exact ⟨d, hd, hdl, t, rfl, fun j _ _ h1 h2 => by omega, fun _ _ => rfl, hfact g4 g3 hTd⟩
            · obtain ⟨di, e1, e2, ti, e3, e4, e5, e6⟩ := g6 i oi (by omega) h2 h3
              rw [setN_length] at e2 e3
              refine ⟨di, e1, e2, ti, e3, fun j oj dj h4 h5 h6 h7 => ?_, fun x hx => ?_, e6⟩
              · by_cases hjk : j = k
                · subst hjk
                  have : oj = o := Option.some.inj (h6.symm.trans hok)
                  subst this
                  have : dj = d := Option.some.inj (h7.symm.trans hd)
                  subst this
                  rw [hTd, e5 dj (fun j' oj' h8 h9 h10 h11 => by have := hap j j' oj oj' dj hkn (by omega) hok h10 hd h11; omega), nth_setN]
                  simp [hdl]
                · exact e4 j oj dj (by omega) h5 h6 h7
              · rw [e5 x (fun j oj h4 h5 h6 => hx j oj (by omega) h5 h6), nth_setN, if_neg]
                intro e
                subst e
                exact hx k o (Nat.le_refl _) (by omega) hok hd
        have hcs := cnt_succ hok
        split at h
        · rename_i ty hop
          split at h
          · rename_i cells hg hz
            have ha : isAlloc o.op = true := by rw [hop]; rfl
            rw [if_pos ha] at hcs
            refine step _ _ vc (by simp [hl, hcs]) (fun s hs => nth_append_lt hs) (fun _ h => h) h (fun _ k2 k3 => .inl ⟨ty, cells, hop, hg, hz, ?_, ?_⟩)
            · rw [k2 _ (by simp [hl]), ← hl, nth_snoc]
            · rw [k3, hl]
          · cases h
        · rename_i hnal
          have ha : isAlloc o.op = false := by
            cases hop : o.op <;> first | rfl | exact absurd hop (hnal _)
          rw [if_neg (by rw [ha]; simp)] at hcs
          split at h
          · rename_i hw
            split at h
            · rename_i v vc2 hv
              refine step _ _ _ (by rw [hl, hcs, Nat.add_zero]) (fun _ _ => rfl) (fun p hp => by simp [hp]) h (fun k1 _ k3 => .inr ⟨ha, true, hw, fun _ => ⟨v, vc2, hv, fun p hp => k1 p (by simp [hp]), fun p hp => k1 p (by simp [hp]), k3⟩, fun e => by cases e⟩)
            · cases h
          · rename_i hw
            refine step _ _ _ (by rw [hl, hcs, Nat.add_zero]) (fun _ _ => rfl) (fun p hp => hp) h (fun k1 _ k3 => .inr ⟨ha, false, hw, fun e => (by cases e), fun _ => k3⟩)
          · cases h
      · cases h

end
end Go.Sh
