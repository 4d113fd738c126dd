/- The shadow machine: a computable reading of the model's code over shadows of values (what a value is made of, with addresses by number), so that the kernel can run a function on symbolic arguments. Definitions only. -/
import Derived.WalkKit
import Derived.LoopNIn
import Derived.TacticsIn
import Derived.OrdersIn
set_option linter.unusedVariables false
set_option linter.unusedSimpArgs false
set_option linter.unusedSectionVars false
namespace Go.Sh

/-- What several cells stand for at once. -/
class Atom (A : Type) where
  cells : A → List Value
  size : A → Nat
  len : ∀ a, (cells a).length = size a
  one : ∀ a, ∀ v ∈ cells a, v.oneCell' = true
  /-- one number? -/
  int : A → Option (IntKind × Int)
  int_ok : ∀ {a k z}, int a = some (k, z) → cells a = [.int k z]
  /-- a number of a kind, wrapped round -/
  wrap : IntKind → Int → Option A
  wrap_ok : ∀ {k z a}, wrap k z = some a → cells a = [.int k (k.wrap z)]
  /-- a number shifted down -/
  shr : A → Nat → Option A
  shr_ok : ∀ {a b m k z}, shr a m = some b → int a = some (k, z) → cells b = [.int k (z.fdiv (2 ^ m))]
  /-- a row of cells, one by one -/
  parts : A → Option (List A)
  parts_ok : ∀ {a l}, parts a = some l → cells a = (l.map cells).flatten ∧ ∀ x ∈ l, size x = 1
  /-- cells as a row -/
  pack : List A → Option A
  pack_ok : ∀ {l b}, pack l = some b → cells b = (l.map cells).flatten
  /-- a row's cell -/
  get : A → Nat → Option A
  get_ok : ∀ {a i b}, get a i = some b → i < size a → ∃ v, (cells a)[i]? = some v ∧ cells b = [v]
  /-- a row with one cell written -/
  set : A → Nat → A → Option A
  set_ok : ∀ {a i b c}, set a i b = some c → i < size a → ∃ v, cells b = [v] ∧ cells c = (cells a).set i v
  /-- a row, as an atom of the kind of another one -/
  like : A → A → Option A
  like_ok : ∀ {a r b}, like a r = some b → cells b = cells r

/-- A shadow of one cell, or of several (an atom). -/
inductive SV (A : Type) where
  | v (x : Value)
  | n (k : IntKind) (x : Int)
  | b (x : Bool)
  | p (i off : Nat)
  | s (i off len cap : Nat)
  | f (g : FuncId) (cap : List (Nat × Nat))
  | a (x : A)
  /-- cell z of the row of len cells at off in block i -/
  | r (i off len z : Nat)
  /-- a slice of memory that is not ours: n cells from cell i on (c with the spare ones) of what lies at a; cell j is (f j) -/
  | e (a : Option Addr) (f : Nat → A) (i n c : Nat)
  /-- the address of its cell i -/
  | q (a : Option Addr) (f : Nat → A) (i : Nat)
  /-- the yield of the loop whose record is block i -/
  | y (i : Nat)
  /-- a number that is still to be wrapped round -/
  | w (k : IntKind) (x : Int)
  /-- n elements, of sz cells each, of a slice whose cells hold for good: cell j is (f (i + j)) -/
  | kn (f : Nat → A) (i n sz : Nat)
  /-- the address of such a cell: k cells from there on are told -/
  | ka (f : Nat → A) (i k : Nat)
  /-- n elements of the growing slice i as it was at its turn v: from element d on, which is cell off -/
  | gr (i v off d n : Nat)
  /-- the address of its cell off -/
  | ga (i v off : Nat)
  /-- (ahead of a growing slice's cells:) its turn, its number of elements -/
  | mk (v n : Nat)
  /-- a text -/
  | tx (l : List UInt8)

/-- A shadow of a value: one cell, or an aggregate's cells; or several values. -/
inductive TV (A : Type) where
  | val (agg : Bool) (l : List (SV A))
  | tup (l : List (Bool × List (SV A)))
  | any

structure Blk (A : Type) where
  cells : List (SV A)
  ty : TypeId
  ro : Bool

/-- A growing slice: its turn, its number of elements, its cells. -/
def Blk.vec {A : Type} (b : Blk A) : Option (Nat × Nat × List (SV A)) :=
  match b.cells with
  | .mk v n :: l => some (v, n, l)
  | _ => none

abbrev Mem (A : Type) := List (Option (Blk A))

/-- How a piece of code is left. -/
inductive Ex where
  | normal
  | ret
  | exit (id : Nat)

/-- The loops over functions whose yield is at hand, the innermost first: by which jump each one's rounds are over, if they are. -/
abbrev Pds := List (Option Ex)

structure St (A : Type) where
  t : List (TV A)
  m : Mem A
  rd : Nat
  vc : List Prop
  pd : Pds

/-- A loop over a function that is under way: the number of its record, what it binds, its code, its frame's slots. -/
structure Ys (A : Type) where
  ix : Nat
  ps : List Tmp
  assign : Code
  body : Code
  t : List (TV A)

/-- A call of yield: the record's number, the arguments, the round's number, the memory, the jumps: whether the loop goes on, the memory behind it, the jumps, what must hold. -/
abbrev YF (A : Type) := Nat → List (TV A) → Nat → Mem A → Pds → Option (Bool × Mem A × Pds × List Prop)

/-- The jump that is pending. -/
def Ex.code : Ex → Code
  | .normal => .skip
  | .ret => .ret
  | .exit id => .exit id

def Ex.toExit : Ex → Exit
  | .normal => .normal
  | .ret => .ret
  | .exit id => .exit id

/-- What becomes of a Bool that has just been yielded: it is kept as it is; it is taken to be b (and that must hold); it is reckoned out. -/
inductive Dec where
  | keep
  | take (b : Bool)
  | eval

structure Cfg (A : Type) where
  P : Program
  gl : Nat → Option Nat
  orc : Nat → Nat → Dec
  /-- is a number's being in its bounds asked for, rather than the number wrapped round? -/
  nw : Bool := true
  call : FuncId → List (TV A) → Mem A → Option (TV A × Option (Mem A) × List Prop)
  /-- what lies in memory that is not ours -/
  old : Addr → Option Value := fun _ => none
  /-- loops that are told: by the number of their first region: the state ahead, how it is left, the state behind -/
  lp : Nat → Option (St A × Ex × St A) := fun _ => none
  /-- the loops over functions whose yield is at hand -/
  ys : List (Ys A) := []
  yf : YF A := fun _ _ _ _ _ => none
  /-- functions that are ranged over: how one is run, where yield does what is told -/
  it : FuncId → List (Ys A) → YF A → List (TV A) → Nat → Mem A → Pds → Option (Mem A × Pds × List Prop) := fun _ _ _ _ _ _ _ => none

section
variable {A : Type} [Atom A]

def nth {α : Type} : List α → Nat → Option α
  | [], _ => none
  | x :: _, 0 => some x
  | _ :: l, n + 1 => nth l n

def setN {α : Type} : List α → Nat → α → List α
  | [], _, _ => []
  | _ :: l, 0, y => y :: l
  | x :: l, n + 1, y => x :: setN l n y

def SV.size : SV A → Nat
  | .a x => Atom.size x
  | _ => 1

def lsize : List (SV A) → Nat
  | [] => 0
  | s :: l => s.size + lsize l

def explode : SV A → List (SV A)
  | .a x =>
    match Atom.parts x with
    | some l => l.map .a
    | none => (Atom.cells x).map .v
  | s => [s]

/-- Rows, cell by cell. -/
def flat : List (SV A) → List (SV A)
  | [] => []
  | .a x :: l =>
    match Atom.parts x with
    | some r => r.map .a ++ flat l
    | none => .a x :: flat l
  | s :: l => s :: flat l

/-- A cell as an atom. -/
def atomOf : SV A → Option A
  | .a x => some x
  | .v (.int k z) => if k.wrap z = z then Atom.wrap k z else none
  | _ => none

def atomsOf : List (SV A) → Option (List A)
  | [] => some []
  | s :: l =>
    match atomOf s, atomsOf l with
    | some x, some r => some (x :: r)
    | _, _ => none

/-- Cells as one row. -/
def rowA (l : List (SV A)) : Option A :=
  match l with
  | [.a x] => some x
  | l =>
    match atomsOf l with
    | some r => Atom.pack r
    | none => none

/-- n cells from i on. -/
def extCells (f : Nat → A) (i : Nat) : Nat → List (SV A)
  | 0 => []
  | n + 1 => .a (f i) :: extCells f (i + 1) n

/-- Memory that is not ours holds what is said. -/
def Reads (old : Addr → Option Value) (a : Option Addr) (f : Nat → A) (i n : Nat) : Prop :=
  ∀ b, a = some b → ∀ j, j < n → ∃ v, old (b.add (i + j)) = some v ∧ Atom.cells (f (i + j)) = [v]

/-- The first n cells, and the rest; an atom that lies across is broken into its cells. -/
def splitC : List (SV A) → Nat → Option (List (SV A) × List (SV A))
  | l, 0 => some ([], l)
  | [], _ + 1 => none
  | s :: l, n + 1 =>
    if s.size ≤ n + 1 then
      match splitC l (n + 1 - s.size) with
      | some (x, y) => some (s :: x, y)
      | none => none
    else some ((explode s).take (n + 1), (explode s).drop (n + 1) ++ l)

/-- Cells off .. off + n. -/
def cut (l : List (SV A)) (off n : Nat) : Option (List (SV A)) :=
  match splitC l off with
  | some (_, r) =>
    match splitC r n with
    | some (x, _) => some x
    | none => none
  | none => none

/-- Cells off .. off + size of x, written over. -/
def over (l : List (SV A)) (off : Nat) (x : List (SV A)) : Option (List (SV A)) :=
  match splitC l off with
  | some (h, r) =>
    match splitC r (lsize x) with
    | some (_, r') => some (h ++ (x ++ r'))
    | none => none
  | none => none

def undefT : TV A := .tup []

def isAggB (P : Program) (t : TypeId) : Option Bool :=
  match P.underlying t with
  | some (.struct _) | some (.array _ _) => some true
  | some _ => some false
  | none => none

def sizeT (P : Program) (t : TypeId) : Option Nat :=
  match P.info? t with
  | some i => some i.size
  | none => none

def zeroT (P : Program) (t : TypeId) : Option (List (SV A)) :=
  match P.info? t with
  | some i =>
    match i.zero with
    | some v => if v.cells.toList.all (·.oneCell') then some (v.cells.toList.map .v) else none
    | none => none
  | none => none

/-- A part of an aggregate, as a value of type t. -/
def partV (P : Program) (t : TypeId) (l : List (SV A)) (off : Nat) : Option (TV A) :=
  match isAggB P t, sizeT P t with
  | some true, some n =>
    match cut l off n with
    | some x => some (.val true x)
    | none => none
  | some false, some _ =>
    match cut l off 1 with
    | some x => some (.val false x)
    | none => none
  | _, _ => none

def ofConst (v : Value) : Option (TV A) :=
  match v with
  | .agg cs => if cs.toList.all (·.oneCell') then some (.val true (cs.toList.map .v)) else none
  | .tuple _ => none
  | v => some (.val false [.v v])

def evO (c : Cfg A) (st : St A) : Operand → Option (TV A)
  | .tmp t => nth st.t t
  | .const v => ofConst v
  | .global g =>
    match c.gl g with
    | some i => some (.val false [.p i 0])
    | none => none
  | .func f => some (.val false [.f f []])

/-- A Bool that is known. -/
def boolOf (tv : TV A) : Option Bool :=
  match tv with
  | .val false [.v (.bool b)] => some b
  | _ => none

/-- A Bool that has just been yielded, decided by the oracle: what must hold. -/
def decT (c : Cfg A) (rd : Nat) (d : Option Tmp) (v : TV A) : TV A × List Prop :=
  match d with
  | some d =>
    match v with
    | .val false [.b x] =>
      match c.orc rd d with
      | .take l => (.val false [.v (.bool l)], [x = l])
      | .eval => (.val false [.v (.bool (match x with | true => true | false => false))], [])
      | .keep => (v, [])
    | .val false [.w k x] => (match c.nw with | true => (.val false [.n k x], [k.wrap x = x]) | false => (.val false [.n k (k.wrap x)], []))
    | _ => (v, [])
  | none => (v, [])

/-- A number that is known. -/
def litOf : TV A → Option Int
  | .val false [.v (.int _ x)] => some x
  | _ => none

def natOf (x : Int) : Option Nat :=
  match x with
  | .ofNat n => some n
  | .negSucc _ => none

def intOfSV : SV A → Option (Bool × IntKind × Int)
  | .v (.int k x) => some (true, k, x)
  | .n k x => some (false, k, x)
  | .a x =>
    match Atom.int x with
    | some (k, z) => some (false, k, z)
    | none => none
  | _ => none

/-- The number, wrapped round. -/
def mkW (lit : Bool) (k : IntKind) (x : Int) : SV A :=
  if lit then .v (.int k (k.wrap x))
  else
    match Atom.wrap k x with
    | some y => .a y
    | none => .w k x
def mkB (lit : Bool) (x : Bool) : SV A := if lit then .v (.bool x) else .b x

def boolSV : SV A → Option (Bool × Bool)
  | .v (.bool x) => some (true, x)
  | .b x => some (false, x)
  | _ => none

/-- What is wrapped round in the end. -/
def arith : BinOp → IntKind → Int → Int → Option Int
  | .add, _, x, y => some (x + y)
  | .sub, _, x, y => some (x - y)
  | .mul, _, x, y => some (x * y)
  | .and, k, x, y => some (BitVec.ofInt k.bits x &&& BitVec.ofInt k.bits y).toNat
  | .or, k, x, y => some (BitVec.ofInt k.bits x ||| BitVec.ofInt k.bits y).toNat
  | .xor, k, x, y => some (BitVec.ofInt k.bits x ^^^ BitVec.ofInt k.bits y).toNat
  | .andNot, k, x, y => some (BitVec.ofInt k.bits x &&& ~~~BitVec.ofInt k.bits y).toNat
  | _, _, _, _ => none

def compare : BinOp → Int → Int → Option Bool
  | .eql, x, y => some (x == y)
  | .neq, x, y => some (x != y)
  | .lss, x, y => some (decide (x < y))
  | .leq, x, y => some (decide (x ≤ y))
  | .gtr, x, y => some (decide (x > y))
  | .geq, x, y => some (decide (x ≥ y))
  | _, _, _ => none

/-- Are two rows of numbers the same? (Whether that is known; whether it is so.) -/
def eqRows : List (SV A) → List (SV A) → Option (Bool × Bool)
  | [], [] => some (true, true)
  | x :: l, y :: r =>
    match intOfSV x, intOfSV y, eqRows l r with
    | some (lx, kx, a), some (ly, ky, b), some (lit, e) => if kx = ky then some (lx && ly && lit, (a == b) && e) else none
    | _, _, _ => none
  | _, _ => none

/-- The fields' cells, in order and without gaps. -/
def flatFs (P : Program) (f : TypeId → Option Nat) : Nat → List Field → Option Nat
  | off, [] => some off
  | off, x :: l =>
    match f x.type with
    | some m => if x.offset = off then (if x.name = "_" then none else flatFs P f (off + m) l) else none
    | none => none

/-- How many cells has a type that is made of whole numbers alone? -/
def flatI (P : Program) : Nat → TypeId → Option Nat
  | 0, _ => none
  | n + 1, t =>
    match P.underlying t, sizeT P t with
    | some (.int _), some 1 => some 1
    | some (.array k e), some s =>
      match flatI P n e with
      | some m => if k * m = s then some s else none
      | none => none
    | some (.struct fs), some s => if P.stoodInHeld t then none else (if flatFs P (flatI P n) 0 fs.toList = some s then some s else none)
    | _, _ => none

/-- A number shifted: s is its shadow. -/
def shiftK (op : BinOp) (s : SV A) (lit : Bool) (k : IntKind) (x : Int) (ly : Bool) (m : Nat) : Option (SV A) :=
  match op with
  | .shl => some (mkW (lit && ly) k (x * 2 ^ min m k.bits))
  | .shr =>
    match s with
    | .v _ => some (if ly then .v (.int k (x.fdiv (2 ^ min m k.bits))) else .n k (x.fdiv (2 ^ min m k.bits)))
    | .a z =>
      match Atom.shr z (min m k.bits) with
      | some z' => some (.a z')
      | none => some (.n k (x.fdiv (2 ^ min m k.bits)))
    | _ => some (.n k (x.fdiv (2 ^ min m k.bits)))
  | _ => none

def binV (P : Program) (op : BinOp) (t : TypeId) : TV A → TV A → Option (TV A)
  | .val false [x], .val false [y] =>
    match intOfSV x, intOfSV y with
    | some (lx, kx, a), some (ly, ky, b) =>
      match op with
      | .shl | .shr => none
      | _ =>
        if kx = ky then
          match arith op kx a b with
          | some r => some (.val false [mkW (lx && ly) kx r])
          | none =>
            match compare op a b with
            | some r => some (.val false [mkB (lx && ly) r])
            | none => none
        else none
    | _, _ =>
      match boolSV x, boolSV y, P.underlying t with
      | some (lx, a), some (ly, b), some .bool =>
        match op with
        | .eql => some (.val false [mkB (lx && ly) (a == b)])
        | .neq => some (.val false [mkB (lx && ly) (!(a == b))])
        | _ => none
      | _, _, _ => none
  | .val true l, .val true r =>
    match op, isAggB P t, flatI P 6 t, eqRows (flat l) (flat r) with
    | .eql, some true, some n, some (lit, q) => if (flat l).length = n then some (.val false [mkB lit q]) else none
    | .neq, some true, some n, some (lit, q) => if (flat l).length = n then some (.val false [mkB lit !q]) else none
    | _, _, _, _ => none
  | _, _ => none

def isShift : BinOp → Bool
  | .shl | .shr => true
  | _ => false

/-- A quotient or a remainder: what must hold is that the divisor isn't 0 (and that the remainder is of the kind). -/
def divV (op : BinOp) : TV A → TV A → Option (TV A × List Prop)
  | .val false [x], .val false [y] =>
    match intOfSV x, intOfSV y with
    | some (lx, kx, a), some (ly, ky, b) =>
      if isShift op then
        if ly then
          match natOf b with
          | some m => (match shiftK op x lx kx a true m with | some r => some (.val false [r], []) | none => none)
          | none => none
        else (match shiftK op x lx kx a false b.toNat with | some r => some (.val false [r], [0 ≤ b]) | none => none)
      else if kx = ky then
        match op with
        | .quo => if ly then (if b = 0 then none else some (.val false [mkW lx kx (a.tdiv b)], [])) else some (.val false [mkW false kx (a.tdiv b)], [b ≠ 0])
        | .rem =>
          if lx && ly then (if b = 0 then none else some (.val false [.v (.int kx (a.tmod b))], []))
          else
            match Atom.wrap kx (a.tmod b) with
            | some y => some (.val false [.a y], [b ≠ 0 ∧ kx.wrap (a.tmod b) = a.tmod b])
            | none => if ly then (if b = 0 then none else some (.val false [.n kx (a.tmod b)], [])) else some (.val false [.n kx (a.tmod b)], [b ≠ 0])
        | _ => none
      else none
    | _, _ => none
  | _, _ => none

def isDiv : BinOp → Bool
  | .quo | .rem | .shl | .shr => true
  | _ => false

/-- The greater, the lesser, of two numbers. -/
def extV (mx : Bool) : List (TV A) → Option (TV A)
  | [.val false [x], .val false [y]] =>
    match intOfSV x, intOfSV y with
    | some (lx, kx, a), some (ly, _, b) => some (.val false [if lx && ly then .v (.int kx (if (if mx then b > a else b < a) then b else a)) else .n kx (if (if mx then b > a else b < a) then b else a)])
    | _, _ => none
  | _ => none

def unV (op : UnOp) : TV A → Option (TV A)
  | .val false [.v (.bool b)] => match op with | .not => some (.val false [.v (.bool !b)]) | _ => none
  | .val false [.b b] => match op with | .not => some (.val false [.b !b]) | _ => none
  | .val false [x] =>
    match intOfSV x with
    | some (l, k, a) =>
      match op with
      | .neg => some (.val false [mkW l k (0 - a)])
      | .xor => some (.val false [mkW l k (BitVec.ofInt k.bits (if k.signed then -1 else k.max) ^^^ BitVec.ofInt k.bits a).toNat])
      | _ => none
    | none => none
  | _ => none

def placesOf (P : Program) (fs : List Field) : Option (List (Nat × Nat)) :=
  match fs with
  | [] => some []
  | f :: r =>
    match sizeT P f.type, placesOf P r with
    | some n, some l => some ((f.offset, n) :: l)
    | _, _ => none

def cellsT : TV A → Option (List (SV A))
  | .val _ l => some l
  | _ => none

/-- The cells of an aggregate, with parts laid over. -/
def fillV (place : Nat → Option (Nat × Nat)) (c : Cfg A) (st : St A) : List (SV A) → List (Nat × Operand) → Option (List (SV A))
  | cells, [] => some cells
  | cells, (i, x) :: rest =>
    match place i, evO c st x with
    | some (off, size), some tv =>
      match cellsT tv with
      | some l =>
        if lsize l = size then
          match over cells off l with
          | some cells' => fillV place c st cells' rest
          | none => none
        else none
      | none => none
    | _, _ => none

def evL (c : Cfg A) (st : St A) : List Operand → Option (List (TV A))
  | [] => some []
  | x :: r =>
    match evO c st x, evL c st r with
    | some v, some l => some (v :: l)
    | _, _ => none

def addrOf : TV A → Option (Nat × Nat)
  | .val false [.p i off] => some (i, off)
  | _ => none

def capsOf : List (TV A) → Option (List (Nat × Nat))
  | [] => some []
  | tv :: r =>
    match addrOf tv, capsOf r with
    | some a, some l => some (a :: l)
    | _, _ => none

/-- A bound of a slice: at most y; where none is told: d. -/
def bndO (c : Cfg A) (st : St A) (y d : Nat) : Option Operand → Option Nat
  | none => some d
  | some x =>
    match evO c st x with
    | some tv =>
      match litOf tv with
      | some z =>
        match natOf z with
        | some k => if k ≤ y then some k else none
        | none => none
      | none => none
    | none => none

def sliceV (c : Cfg A) (st : St A) (i off len cap : Nat) (e : TypeId) (lo hi mx : Option Operand) : Option (TV A × List Prop) :=
  if mx.isSome && hi.isNone then none
  else
    match bndO c st cap cap mx, sizeT c.P e with
    | some m, some sz =>
      match bndO c st m len hi with
      | some h =>
        match bndO c st h 0 lo with
        | some l => some (.val false [.s i (if m = l then off else off + l * sz) (h - l) (m - l)], [])
        | none => none
      | none => none
    | _, _ => none

/-- A number, literal or not. -/
def numOf : TV A → Option (Bool × Int)
  | .val false [s] =>
    match intOfSV s with
    | some (l, _, z) => some (l, z)
    | none => none
  | _ => none

/-- k elements of so many cells. -/
def timesN (k : Nat) : Nat → Nat
  | 1 => k
  | s => k * s
omit [Atom A] in
theorem timesN_eq (k s : Nat) : timesN k s = k * s := by
  unfold timesN
  split
  · omega
  · rfl

/-- Where a part of a slice begins. -/
def startN (lo : Option Operand) (i l sz : Nat) : Nat :=
  match lo with
  | none => i
  | some _ => timesN l sz + i

/-- The address of an element. -/
def indexAddrV (P : Program) (t : TypeId) (xv iv : TV A) : Option (TV A × List Prop) :=
  match numOf iv with
  | some (lit, z) =>
    match P.underlying t, xv with
    | some (.array n e), .val false [.p i off] =>
      match sizeT P e with
      | some sz =>
        if lit then
          match natOf z with
          | some k => if k < n then some (.val false [.p i (off + k * sz)], []) else none
          | none => none
        else if sz = 1 then some (.val false [.r i off n z.toNat], [0 ≤ z ∧ z < n]) else none
      | none => none
    | some (.slice e), .val false [.s i off n _] =>
      match sizeT P e with
      | some sz =>
        if lit then
          match natOf z with
          | some k => if k < n then some (.val false [.p i (off + k * sz)], []) else none
          | none => none
        else if sz = 1 then some (.val false [.r i off n z.toNat], [0 ≤ z ∧ z < n]) else none
      | none => none
    | some (.slice e), .val false [.e a f i n _] =>
      match sizeT P e with
      | some sz => some (.val false [.q a f (timesN z.toNat sz + i)], [0 ≤ z ∧ z < n])
      | none => none
    | some (.slice e), .val false [.kn f i n sz'] =>
      match sizeT P e with
      | some sz => if sz = sz' then some (.val false [.ka f (timesN z.toNat sz + i) sz], [0 ≤ z ∧ z < n]) else none
      | none => none
    | _, _ => none
  | none => none

/-- Cell z of a row. -/
def rowGet (l : List (SV A)) (n z : Nat) : Option (SV A) :=
  match rowA l with
  | some row =>
    if Atom.size row = n then
      match Atom.get row z with
      | some y => some (.a y)
      | none => none
    else none
  | none => none

/-- An element of an array; a byte of a text. -/
def indexV (P : Program) (t : TypeId) (xv iv : TV A) : Option (TV A × List Prop) :=
  match numOf iv with
  | some (lit, z) =>
    match P.underlying t, xv with
    | some (.array n e), .val true l =>
      match sizeT P e with
      | some sz =>
        if lit then
          match natOf z with
          | some k =>
            if k < n then
              match partV P e l (k * sz) with
              | some v => some (v, [])
              | none => none
            else none
          | none => none
        else
          match isAggB P e, rowGet l n z.toNat with
          | some false, some y => if sz = 1 then some (.val false [y], [0 ≤ z ∧ z < n]) else none
          | _, _ => none
      | none => none
    | some .string, .val false [.v (.string s)] =>
      if lit then
        match natOf z with
        | some k =>
          match nth s.data.toList k with
          | some b => some (.val false [.v (.int .u8 b.toNat)], [])
          | none => none
        | none => none
      else none
    | _, _ => none
  | none => none

/-- What lies at an address. -/
def loadV (c : Cfg A) (m : Mem A) (t : TypeId) (xv : TV A) : Option (TV A × List Prop) :=
  match xv with
  | .val false [.p i off] =>
    match nth m i with
    | some (some blk) =>
      match partV c.P t blk.cells off with
      | some v => some (v, [])
      | none => none
    | _ => none
  | .val false [.r i off n z] =>
    match nth m i with
    | some (some blk) =>
      match isAggB c.P t, sizeT c.P t, cut blk.cells off n with
      | some false, some 1, some l =>
        match rowGet l n z with
        | some y => some (.val false [y], [])
        | none => none
      | _, _, _ => none
    | _ => none
  | .val false [.q a f i] =>
    match isAggB c.P t, sizeT c.P t with
    | some true, some n => some (.val true (extCells f i n), [Reads c.old a f i n])
    | some false, some 1 => some (.val false [.a (f i)], [Reads c.old a f i 1])
    | _, _ => none
  | .val false [.ka f i k] =>
    match isAggB c.P t, sizeT c.P t with
    | some true, some n => if n ≤ k then some (.val true (extCells f i n), []) else none
    | some false, some 1 => if 1 ≤ k then some (.val false [.a (f i)], []) else none
    | _, _ => none
  | _ => none

/-- A bound of a slice of memory that is not ours. -/
def bndE (c : Cfg A) (st : St A) (y d : Nat) : Option Operand → Option (Nat × List Prop)
  | none => some (d, [])
  | some x =>
    match evO c st x with
    | some tv =>
      match numOf tv with
      | some (_, z) => some (z.toNat, [0 ≤ z ∧ z ≤ y])
      | none => none
    | none => none

def sliceE (c : Cfg A) (st : St A) (a : Option Addr) (f : Nat → A) (i len cap : Nat) (e : TypeId) (lo hi mx : Option Operand) : Option (TV A × List Prop) :=
  if mx.isSome && hi.isNone then none
  else
    match bndE c st cap cap mx, sizeT c.P e with
    | some (m, v1), some sz =>
      match bndE c st m len hi with
      | some (h, v2) =>
        match bndE c st h 0 lo with
        | some (l, v3) => some (.val false [.e a f (startN lo i l sz) (h - l) (m - l)], v3 ++ (v2 ++ v1))
        | none => none
      | none => none
    | _, _ => none

/-- The bounds of a part that lies within the first len elements. -/
def boundsH (c : Cfg A) (st : St A) (len : Nat) (lo hi mx : Option Operand) : Option (Nat × Nat × List Prop) :=
  if mx.isSome && hi.isNone then none
  else
    match bndE c st len len mx with
    | some (m, v1) =>
      match bndE c st m len hi with
      | some (h, v2) =>
        match bndE c st h 0 lo with
        | some (l, v3) => some (l, h, v3 ++ (v2 ++ v1))
        | none => none
      | none => none
    | none => none

/-- How long is it? -/
def lenV (P : Program) (t : TypeId) (xv : TV A) : Option (TV A) :=
  match P.underlying t, xv with
  | some (.slice _), .val false [.s _ _ n _] => some (.val false [.v (.int .i64 n)])
  | some (.slice _), .val false [.v (.slice none n _)] => some (.val false [.v (.int .i64 n)])
  | some (.slice _), .val false [.e _ _ _ n _] => some (.val false [.n .i64 n])
  | some (.slice _), .val false [.kn _ _ n _] => some (.val false [.n .i64 n])
  | some (.slice _), .val false [.gr _ _ _ _ n] => some (.val false [.n .i64 n])
  | some .string, .val false [.v (.string s)] => some (.val false [.v (.int .i64 s.size)])
  | _, _ => none

/-- An operation that yields a value, and leaves the memory as it is. -/
def opV (c : Cfg A) (st : St A) (op : Op) : Option (TV A × List Prop) :=
  match op with
  | .move x | .assign x =>
    match evO c st x with
    | some v => some (v, [])
    | none => none
  | .pick q x y =>
    match evO c st q with
    | some qv =>
      match boolOf qv with
      | some b =>
        match evO c st (if b then x else y) with
        | some v => some (v, [])
        | none => none
      | none => none
    | none => none
  | .fieldAddr t x f =>
    match evO c st x with
    | some xv =>
      match addrOf xv, c.P.underlying t with
      | some (i, off), some (.struct fs) =>
        match fs[f]? with
        | some fd =>
          match sizeT c.P fd.type with
          | some (_ + 1) => some (.val false [.p i (off + fd.offset)], [])
          | _ => none
        | none => none
      | _, _ => none
    | none => none
  | .field t x f =>
    match evO c st x, c.P.underlying t with
    | some (.val true l), some (.struct fs) =>
      match fs[f]? with
      | some fd =>
        match partV c.P fd.type l fd.offset with
        | some v => some (v, [])
        | none => none
      | none => none
    | _, _ => none
  | .indexAddr t x ix =>
    match evO c st x, evO c st ix with
    | some xv, some iv => indexAddrV c.P t xv iv
    | _, _ => none
  | .index t x ix =>
    match evO c st x, evO c st ix with
    | some xv, some iv => indexV c.P t xv iv
    | _, _ => none
  | .load t x =>
    match evO c st x with
    | some xv => loadV c st.m t xv
    | none => none
  | .extract x i =>
    match evO c st x with
    | some (.tup l) =>
      match nth l i with
      | some (g, cs) => some (.val g cs, [])
      | none => none
    | _ => none
  | .binOp op t x y _ =>
    match evO c st x, evO c st y with
    | some xv, some yv =>
      if isDiv op then divV op xv yv
      else
        match binV c.P op t xv yv with
        | some v => some (v, [])
        | none => none
    | _, _ => none
  | .unOp op _ x =>
    match evO c st x with
    | some xv =>
      match unV op xv with
      | some v => some (v, [])
      | none => none
    | none => none
  | .convert src dst x =>
    match evO c st x, c.P.underlying src, c.P.underlying dst with
    | some (.val false [s]), some _, some (.int k) =>
      match intOfSV s with
      | some (l, _, a) => some (.val false [mkW l k a], [])
      | none => none
    | _, _, _ => none
  | .build t parts =>
    match zeroT c.P t, c.P.underlying t with
    | some cells, some (.struct fs) =>
      match placesOf c.P fs.toList with
      | some ps =>
        match fillV (fun i => nth ps i) c st cells parts.toList with
        | some l => some (.val true l, [])
        | none => none
      | none => none
    | some cells, some (.array _ e) =>
      match sizeT c.P e with
      | some sz =>
        match fillV (fun i => some (i * sz, sz)) c st cells parts.toList with
        | some l => some (.val true l, [])
        | none => none
      | none => none
    | _, _ => none
  | .slice t x lo hi mx =>
    match evO c st x, c.P.underlying t with
    | some (.val false [.p i off]), some (.array n e) => sliceV c st i off n n e lo hi mx
    | some (.val false [.s i off n cp]), some (.slice e) => sliceV c st i off n cp e lo hi mx
    | some (.val false [.e a f i n cp]), some (.slice e) => sliceE c st a f i n cp e lo hi mx
    | some (.val false [.kn f i n sz']), some (.slice e) =>
      match sizeT c.P e, boundsH c st n lo hi mx with
      | some sz, some (l, h, vc) => if sz = sz' then some (.val false [.kn f (startN lo i l sz) (h - l) sz], vc) else none
      | _, _ => none
    | _, _ => none
  | .makeFunc (.func g) first captured =>
    match evL c st captured.toList with
    | some l =>
      match capsOf l with
      | some cs => if first.isEmpty then some (.val false [.f g cs], []) else none
      | none => none
    | none => none
  | .call { callee := .value (.func g), args, argTypes := _ } =>
    match evL c st args.toList with
    | some l =>
      match c.call g l st.m with
      | some (v, none, vc) => some (v, vc)
      | _ => none
    | none => none
  | .call { callee := .builtin .len, args, argTypes } =>
    match evL c st args.toList, argTypes[0]? with
    | some [xv], some t =>
      match lenV c.P t xv with
      | some v => some (v, [])
      | none => none
    | _, _ => none
  | .call { callee := .builtin .max, args, argTypes := _ } =>
    match evL c st args.toList with
    | some l =>
      match extV true l with
      | some v => some (v, [])
      | none => none
    | none => none
  | .call { callee := .builtin .min, args, argTypes := _ } =>
    match evL c st args.toList with
    | some l =>
      match extV false l with
      | some v => some (v, [])
      | none => none
    | none => none
  | _ => none

def putT (st : St A) (d : Option Tmp) (v : TV A) : St A :=
  match d with
  | some d => { st with t := setN st.t d v }
  | none => st

/-- Memory with a value written. -/
def storeV (P : Program) (m : Mem A) (t : TypeId) (xv yv : TV A) : Option (Mem A) :=
  match xv, cellsT yv with
  | .val false [.p i off], some l =>
    match nth m i with
    | some (some blk) =>
      match blk.ro, over blk.cells off l with
      | false, some cells => if sizeT P t = some (lsize l) then some (setN m i (some ⟨cells, blk.ty, false⟩)) else none
      | _, _ => none
    | _ => none
  | .val false [.r i off n z], some [s] =>
    match nth m i with
    | some (some blk) =>
      match blk.ro, cut blk.cells off n, atomOf s, sizeT P t with
      | false, some l, some y, some 1 =>
        match rowA l with
        | some row =>
          if Atom.size row = n then
            match Atom.set row z y with
            | some row' =>
              match over blk.cells off [.a row'] with
              | some cells => some (setN m i (some ⟨cells, blk.ty, false⟩))
              | none => none
            | none => none
          else none
        | none => none
      | _, _, _, _ => none
    | _ => none
  | _, _ => none

/-- What a function has captured, as arguments. -/
def capsTV : List (Nat × Nat) → List (TV A)
  | [] => []
  | (i, off) :: r => .val false [.p i off] :: capsTV r

/-- A call. -/
def callX (c : Cfg A) (st : St A) (d : Option Tmp) (g : FuncId) (l : List (TV A)) : Option (St A) :=
  match c.call g l st.m with
  | some (v, none, vc) => some (putT { st with vc := (decT c st.rd d v).2 ++ (vc ++ st.vc) } d (decT c st.rd d v).1)
  | some (v, some m', vc) => some (putT { st with m := m', vc := (decT c st.rd d v).2 ++ (vc ++ st.vc) } d (decT c st.rd d v).1)
  | none => none

/-- One operation. -/
def exec1 (c : Cfg A) (st : St A) (o : Oper) : Option (St A) :=
  match o.op with
  | .alloc t =>
    match zeroT c.P t with
    | some cells => some (putT { st with m := st.m ++ [some ⟨cells, t, false⟩] } o.dst (.val false [.p st.m.length 0]))
    | none => none
  | .box t x =>
    match evO c st x with
    | some xv =>
      match cellsT xv with
      | some cells => some (putT { st with m := st.m ++ [some ⟨cells, t, false⟩] } o.dst (.val false [.p st.m.length 0]))
      | none => none
    | none => none
  | .buildSlice t len parts =>
    match c.P.underlying t with
    | some (.slice e) =>
      match sizeT c.P e, zeroT (A := A) c.P e with
      | some (sz + 1), some z =>
        if len * (sz + 1) ≤ 4096 then
          if z.length = sz + 1 then
            match fillV (fun i => some (i * (sz + 1), sz + 1)) c st (List.replicate len z).flatten parts.toList with
            | some cells => some (putT { st with m := st.m ++ [some ⟨cells, e, false⟩] } o.dst (.val false [.s st.m.length 0 len len]))
            | none => none
          else none
        else none
      | _, _ => none
    | _ => none
  | .store t x y =>
    match evO c st x, evO c st y with
    | some xv, some yv =>
      match storeV c.P st.m t xv yv with
      | some m' => some (putT { st with m := m' } o.dst undefT)
      | none => none
    | _, _ => none
  | .call { callee := .value (.func g), args, argTypes := _ } =>
    match evL c st args.toList with
    | some l => callX c st o.dst g l
    | none => none
  | .call { callee := .value (.tmp x), args, argTypes := _ } =>
    match nth st.t x, evL c st args.toList with
    | some (.val false [.y i]), some l =>
      match c.yf i l st.rd st.m st.pd with
      | some (b, m', pd', vc) => some (putT { st with m := m', pd := pd', vc := vc ++ st.vc } o.dst (.val false [.v (.bool b)]))
      | none => none
    | some (.val false [.f g cap]), some l => callX c st o.dst g (l ++ capsTV cap)
    | _, _ => none
  | op =>
    match opV c st op with
    | some (v, vc) => some (putT { st with vc := (decT c st.rd o.dst v).2 ++ (vc ++ st.vc) } o.dst (decT c st.rd o.dst v).1)
    | none => none

/-- Is an operation carried out? -/
def wants (ops : List Oper) (st : St A) (o : Oper) : Option Bool :=
  match o.guard with
  | none => some true
  | some (j, want) =>
    match nth ops j with
    | some oj =>
      match oj.dst with
      | some d =>
        match nth st.t d with
        | some (.tup []) => some false
        | some tv =>
          match boolOf tv with
          | some b => some (b == want)
          | none => none
        | none => none
      | none => none
    | none => none

def execOps (c : Cfg A) (ops : List Oper) : List Oper → St A → Option (St A)
  | [], st => some st
  | o :: rest, st =>
    match wants ops st o with
    | some true =>
      match exec1 c st o with
      | some st' => execOps c ops rest st'
      | none => none
    | some false => execOps c ops rest (putT st o.dst undefT)
    | none => none

end
end Go.Sh
