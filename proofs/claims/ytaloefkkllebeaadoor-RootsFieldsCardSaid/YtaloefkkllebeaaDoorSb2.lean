/- SHA-256, the reference: its maker; its sum. -/
import Derived.Test.YtaloefkkllebeaaDoorSb1
set_option linter.unusedVariables false
set_option linter.unusedSimpArgs false
set_option linter.unusedSectionVars false
namespace Go.Sh
def tabL : List UInt32 := firstL ++ roundL
def tabA (j : Nat) : UInt32 := pickN 0 tabL j
def sameW : List UInt32 → List UInt32 → Bool
  | [], [] => true
  | x :: l, y :: r => (match Nat.beq x.toNat y.toNat with | true => sameW l r | false => false)
  | _, _ => false
theorem sameW_eq : ∀ {l r : List UInt32}, sameW l r = true → l = r
  | [], [], _ => rfl
  | x :: l, y :: r, h => by
    unfold sameW at h
    split at h
    · rename_i hb
      rw [UInt32.toNat_inj.1 (Nat.eq_of_beq_eq_true hb), sameW_eq h]
    · cases h
  | [], _ :: _, h => by cases h
  | _ :: _, [], h => by cases h
/-- The reference's constants, as they are made. -/
inductive Mk where
  | mk
theorem lis_words {β : Adr} : ∀ l : List UInt32, LIs β (l.map fun x => (SV.a (At.u32 x) : SV A)) (l.map fun x => Value.int .u32 x.toNat)
  | [] => rfl
  | x :: l => ⟨[Value.int .u32 x.toNat], _, rfl, lis_words l, rfl⟩
theorem lis_words' {β : Adr} : ∀ {l : List UInt32} {vs}, LIs β (l.map fun x => (SV.a (At.u32 x) : SV A)) vs → vs = l.map fun x => Value.int .u32 x.toNat
  | [], vs, h => h
  | x :: l, vs, ⟨u, y, h1, h2, e⟩ => by
    have h3 : u = [Value.int .u32 x.toNat] := h1
    rw [e, h3, lis_words' h2]; rfl
instance : Rep A Mk where
  agg := true
  shw _ := tabL.map fun x => .a (.u32 x)
  vals _ := tabL.map fun x => .int .u32 x.toNat
  parse l := match words32 (flat l) with | some r => (match sameW r tabL with | true => some .mk | false => none) | none => none
  is β _ := lis_words tabL
  only h := lis_words' h
  ok := by
    intro β l x vs h e
    split at h
    · rename_i r hr
      split at h
      · rename_i hb
        rw [words32_is (flat_is e) hr, sameW_eq hb]
      · cases h
    · cases h
  single h := by cases h
theorem pickN_at' {α : Type} (d : α) : ∀ (l : List α) (i : Nat), i < l.length → l[i]? = some (pickN d l i) := pickN_at d
instance : Celled Mk where
  n := 72
  cellA _ j := .u32 (tabA j)
  len _ := by show (tabL.map _).length = 72; rfl
  cell _ j hj := ⟨.int .u32 (tabA j).toNat, by
    show (tabL.map _)[j]? = _
    rw [List.getElem?_map, pickN_at 0 tabL j (show j < 72 from hj)]
    rfl, rfl⟩
  of _ _ := .mk
  must f i := ∀ j, j < 72 → f (i + j) = .u32 (tabA j)
  of_ok h j hj := by rw [h j hj]
/-- How far words are turned. -/
inductive Tn where
  | t7
  | t18
  | t17
  | t19
  | t6
  | t11
  | t25
  | t2
  | t13
  | t22
def Tn.n : Tn → Nat
  | .t7 => 7
  | .t18 => 18
  | .t17 => 17
  | .t19 => 19
  | .t6 => 6
  | .t11 => 11
  | .t25 => 25
  | .t2 => 2
  | .t13 => 13
  | .t22 => 22
def findTn (k : Nat) : List Tn → Option Tn
  | [] => none
  | x :: l => match Nat.beq k x.n with | true => some x | false => findTn k l
def tnOf (k : Nat) : Option Tn := findTn k [.t7, .t18, .t17, .t19, .t6, .t11, .t25, .t2, .t13, .t22]
theorem findTn_ok {k : Nat} {x : Tn} : ∀ {l : List Tn}, findTn k l = some x → x.n = k
  | y :: l, h => by
    unfold findTn at h
    split at h
    · rename_i hb
      obtain rfl := Option.some.inj h
      exact (Nat.eq_of_beq_eq_true hb).symm
    · exact findTn_ok h
theorem tnOf_ok {k : Nat} {x : Tn} (h : tnOf k = some x) : x.n = k := findTn_ok h
instance : Arg A Tn where
  G := Unit
  good _ _ _ := True
  tv _ x := .val false [.v (.int .i64 x.n)]
  val _ x := .int .i64 x.n
  is β _ := LIs.of_single ⟨rfl, rfl⟩
  parse _ _ t := match t with
    | .val false [.v (.int .i64 (.ofNat k))] => (match tnOf k with | some x => some (x, []) | none => none)
    | _ => none
  ok := by
    intro c X W0 W β m t x vc v h hvc hm e
    split at h
    · rename_i k
      split at h
      · rename_i y hy
        simp at h
        obtain ⟨rfl, rfl⟩ := h
        obtain ⟨e1, _⟩ := LIs.single (e : LIs β _ [v])
        simp at e1
        exact ⟨(), trivial, by rw [e1, tnOf_ok hy]⟩
      · cases h
    · cases h
def turn3 (x : UInt32) (n : Nat) : UInt32 := or3 (shr3 x n) (shl3 x (32 - n))
end Go.Sh
namespace Go.Proofs.YtaloefkkllebeaaDoor
open Go Go.Sh
theorem turn_ok : Computes A Tryd.prog 89 (fun x : UInt32 × Tn × Unit => turn3 x.1 x.2.1.n) := by
  refine computes_of_run (TblOK.nil _) Tryd.func89 (by kernel_rfl) (by kernel_rfl) 4 ?_
  rintro ⟨_, _, _⟩ ⟨x, n, ⟨⟩⟩ W -
  refine ⟨fun _ _ => .keep, turn3 x n.n, [], ?_, trivial, rfl⟩
  cases n <;> kernel_rfl
def turnR : Row A := rowOf A 89 (fun x : UInt32 × Tn × Unit => turn3 x.1 x.2.1.n)
noncomputable def tblRef (P : List UInt8 → List UInt8) : List (Row A) := [rowOf A 30 (fun x : Bt × Unit => (⟨P x.1.l⟩ : Bz)), turnR]
def rSl (a : Addr) (P : List UInt8) (at_ : Int) : List (Nat × TV A) :=
  [(0, .val false [.q (some a) (fun j => .u32 (tabA j)) 0]), (4, .val false [.p 0 0]), (5, .val false [.p 1 0]), (6, .val false [.kn (byteAt P) 0 P.length 1]), (7, .val false [.n .i64 at_])]
def rMem (h : Nat → UInt32) : Mem A := [some ⟨zer8 32, 25, false⟩, some ⟨[.a (.w32 8 h)], 37, false⟩]
def rW (f : Nat → UInt32) : Option (Blk A) := some ⟨[.a (.w32 64 f)], 138, false⟩
def rV (v : Nat → UInt32) : Option (Blk A) := some ⟨[.a (.w32 8 v)], 37, false⟩
def r1 (a : Addr) (P : List UInt8) (h : Nat → UInt32) (k : Nat) (f : Nat → UInt32) (i : Nat) : St A := ⟨slots 0 216 (rSl a P ((64 * k : Nat) : Int) ++ [(8, .val false [.p 2 0]), (9, .val false [.n .i64 i])]), rMem h ++ [rW f], 0, [], []⟩
def r2 (a : Addr) (P : List UInt8) (h : Nat → UInt32) (k : Nat) (f : Nat → UInt32) (i : Nat) : St A := ⟨slots 0 216 (rSl a P ((64 * k : Nat) : Int) ++ [(8, .val false [.p 2 0]), (11, .val false [.n .i64 i])]), rMem h ++ [rW f], 0, [], []⟩
def r3 (a : Addr) (P : List UInt8) (h : Nat → UInt32) (k : Nat) (f v : Nat → UInt32) (i : Nat) : St A := ⟨slots 0 216 (rSl a P ((64 * k : Nat) : Int) ++ [(8, .val false [.p 2 0]), (14, .val false [.p 3 0]), (15, .val false [.n .i64 i])]), rMem h ++ [rW f, rV v], 0, [], []⟩
end Go.Proofs.YtaloefkkllebeaaDoor
