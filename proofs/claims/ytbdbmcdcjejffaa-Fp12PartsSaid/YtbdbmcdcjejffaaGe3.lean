/- Equations of commutative rings, by reckoning. -/
import Derived.Test.YtbdbmcdcjejffaaGd2
set_option linter.unusedVariables false
set_option linter.unusedSimpArgs false
set_option linter.unusedSectionVars false
namespace Go.Proofs.Ytbdbmcdcjejffaa
open Go Go.Sh

/-- An expression. -/
inductive CX where
  | v (j : Nat)
  | z
  | u
  | a (x y : CX)
  | t (x y : CX)
  | m (x : CX)
namespace CX
/-- Which monomial comes first. -/
def le : List Nat → List Nat → Bool
  | [], _ => true
  | _ :: _, [] => false
  | x :: l, y :: r => match Nat.beq x y with | true => le l r | false => Nat.ble x y
def insN (x : Nat) : List Nat → List Nat
  | [] => [x]
  | y :: l => match Nat.ble x y with | true => x :: y :: l | false => y :: insN x l
def mulM : List Nat → List Nat → List Nat
  | [], r => r
  | x :: l, r => insN x (mulM l r)
def insM (x : List Nat) : List (List Nat) → List (List Nat)
  | [] => [x]
  | y :: l => match le x y with | true => x :: y :: l | false => y :: insM x l
def sortM : List (List Nat) → List (List Nat)
  | [] => []
  | x :: l => insM x (sortM l)
def mulR (x : List Nat) : List (List Nat) → List (List Nat)
  | [] => []
  | y :: l => mulM x y :: mulR x l
def mulP : List (List Nat) → List (List Nat) → List (List Nat)
  | [], _ => []
  | x :: l, r => mulR x r ++ mulP l r
/-- What comes with a plus, with a minus. -/
def nf : CX → List (List Nat) × List (List Nat)
  | v j => ([[j]], [])
  | z => ([], [])
  | u => ([[]], [])
  | a x y => ((nf x).1 ++ (nf y).1, (nf x).2 ++ (nf y).2)
  | t x y => (mulP (nf x).1 (nf y).1 ++ mulP (nf x).2 (nf y).2, mulP (nf x).1 (nf y).2 ++ mulP (nf x).2 (nf y).1)
  | m x => ((nf x).2, (nf x).1)
def eqN : List Nat → List Nat → Bool
  | [], [] => true
  | x :: l, y :: r => match Nat.beq x y with | true => eqN l r | false => false
  | _, _ => false
def eqM : List (List Nat) → List (List Nat) → Bool
  | [], [] => true
  | x :: l, y :: r => match eqN x y with | true => eqM l r | false => false
  | _, _ => false
def same (e f : CX) : Bool := eqM (sortM ((nf e).1 ++ (nf f).2)) (sortM ((nf f).1 ++ (nf e).2))
theorem eqN_eq : ∀ {l r}, eqN l r = true → l = r
  | [], [], _ => rfl
  | x :: l, y :: r, h => by
    unfold eqN at h
    split at h
    · rename_i hb; rw [Nat.eq_of_beq_eq_true hb, eqN_eq h]
    · cases h
  | [], _ :: _, h => by cases h
  | _ :: _, [], h => by cases h
theorem eqM_eq : ∀ {l r}, eqM l r = true → l = r
  | [], [], _ => rfl
  | x :: l, y :: r, h => by
    unfold eqM at h
    split at h
    · rename_i hb; rw [eqN_eq hb, eqM_eq h]
    · cases h
  | [], _ :: _, h => by cases h
  | _ :: _, [], h => by cases h
section
variable {X : Type} [CR X] (g : Nat → X)
def den : CX → X
  | v j => g j
  | z => CR.o
  | u => CR.i
  | a x y => CR.p (den x) (den y)
  | t x y => CR.m (den x) (den y)
  | m x => CR.n (den x)
def dM : List Nat → X
  | [] => CR.i
  | x :: l => CR.m (g x) (dM l)
def dS : List (List Nat) → X
  | [] => CR.o
  | x :: l => CR.p (dM g x) (dS l)
theorem dM_ins (x : Nat) : ∀ l, dM g (insN x l) = CR.m (g x) (dM g l)
  | [] => rfl
  | y :: l => by
    unfold insN
    split
    · rfl
    · show CR.m (g y) (dM g (insN x l)) = _
      rw [dM_ins x l, CR.mL]; rfl
theorem dM_mul : ∀ l r, dM g (mulM l r) = CR.m (dM g l) (dM g r)
  | [], r => (CR.m1' _).symm
  | x :: l, r => by
    show dM g (insN x (mulM l r)) = _
    rw [dM_ins, dM_mul l r, ← CR.mA]; rfl
theorem dS_ins (x : List Nat) : ∀ l, dS g (insM x l) = CR.p (dM g x) (dS g l)
  | [] => rfl
  | y :: l => by
    unfold insM
    split
    · rfl
    · show CR.p (dM g y) (dS g (insM x l)) = _
      rw [dS_ins x l, CR.pL]; rfl
theorem dS_sort : ∀ l, dS g (sortM l) = dS g l
  | [] => rfl
  | x :: l => by
    show dS g (insM x (sortM l)) = _
    rw [dS_ins, dS_sort l]; rfl
theorem dS_app : ∀ l r, dS g (l ++ r) = CR.p (dS g l) (dS g r)
  | [], r => (CR.p0' _).symm
  | x :: l, r => by
    show CR.p (dM g x) (dS g (l ++ r)) = _
    rw [dS_app l r, ← CR.pA]; rfl
theorem dS_mulR (x : List Nat) : ∀ l, dS g (mulR x l) = CR.m (dM g x) (dS g l)
  | [] => (CR.m0 _).symm
  | y :: l => by
    show CR.p (dM g (mulM x y)) (dS g (mulR x l)) = CR.m (dM g x) (CR.p (dM g y) (dS g l))
    rw [dM_mul, dS_mulR x l, CR.mD]
theorem dS_mulP : ∀ l r, dS g (mulP l r) = CR.m (dS g l) (dS g r)
  | [], r => (CR.m0' _).symm
  | x :: l, r => by
    show dS g (mulR x r ++ mulP l r) = CR.m (CR.p (dM g x) (dS g l)) (dS g r)
    rw [dS_app, dS_mulR, dS_mulP l r, CR.mD']
theorem den_nf : ∀ e, den g e = CR.p (dS g (nf e).1) (CR.n (dS g (nf e).2))
  | v j => by
    show g j = CR.p (CR.p (CR.m (g j) CR.i) CR.o) (CR.n CR.o)
    rw [CR.m1, CR.n0, CR.p0, CR.p0]
  | z => by
    show CR.o = CR.p CR.o (CR.n CR.o)
    rw [CR.n0, CR.p0]
  | u => by
    show CR.i = CR.p (CR.p CR.i CR.o) (CR.n CR.o)
    rw [CR.n0, CR.p0, CR.p0]
  | a x y => by
    show CR.p (den g x) (den g y) = CR.p (dS g ((nf x).1 ++ (nf y).1)) (CR.n (dS g ((nf x).2 ++ (nf y).2)))
    rw [den_nf x, den_nf y, dS_app, dS_app, CR.nP, CR.pA, CR.pA, CR.pL (CR.n (dS g (nf x).2))]
  | t x y => by
    show CR.m (den g x) (den g y) = CR.p (dS g (mulP (nf x).1 (nf y).1 ++ mulP (nf x).2 (nf y).2)) (CR.n (dS g (mulP (nf x).1 (nf y).2 ++ mulP (nf x).2 (nf y).1)))
    rw [den_nf x, den_nf y, dS_app, dS_app, dS_mulP, dS_mulP, dS_mulP, dS_mulP, CR.mD, CR.mD', CR.mD', CR.mN, CR.mN, CR.mN', CR.mN', CR.nn, CR.nP]
    generalize CR.m (dS g (nf x).1) (dS g (nf y).1) = q1
    generalize CR.n (CR.m (dS g (nf x).2) (dS g (nf y).1)) = q2
    generalize CR.n (CR.m (dS g (nf x).1) (dS g (nf y).2)) = q3
    generalize CR.m (dS g (nf x).2) (dS g (nf y).2) = q4
    rw [CR.pA, CR.pA, CR.pL q4, CR.pL q2 q3 q4, CR.pC q4 q2]
  | m x => by
    show CR.n (den g x) = CR.p (dS g (nf x).2) (CR.n (dS g (nf x).1))
    rw [den_nf x, CR.nP, CR.nn, CR.pC]
/-- Two expressions of the same normal form are equal, in every commutative ring. -/
theorem ring {e f : CX} (h : same e f = true) : den g e = den g f := by
  have h2 := congrArg (dS g) (eqM_eq h)
  rw [dS_sort, dS_sort, dS_app, dS_app] at h2
  rw [den_nf g e, den_nf g f]
  refine CR.pcan (a := CR.p (dS g (nf e).2) (dS g (nf f).2)) ?_
  have l1 : CR.p (CR.p (dS g (nf e).2) (dS g (nf f).2)) (CR.p (dS g (nf e).1) (CR.n (dS g (nf e).2))) = CR.p (dS g (nf e).1) (dS g (nf f).2) := by
    rw [CR.pA, CR.pL (dS g (nf f).2), CR.pL (dS g (nf e).2), CR.pL (dS g (nf e).2) (dS g (nf f).2), CR.pN, CR.p0]
  have l2 : CR.p (CR.p (dS g (nf e).2) (dS g (nf f).2)) (CR.p (dS g (nf f).1) (CR.n (dS g (nf f).2))) = CR.p (dS g (nf f).1) (dS g (nf e).2) := by
    rw [CR.pA, CR.pL (dS g (nf f).2), CR.pN, CR.p0, CR.pC]
  rw [l1, l2, h2]
end
end CX
/-- What the variables stand for. -/
def envL {X : Type} [CR X] (l : List X) (j : Nat) : X := l.getD j CR.o
end Go.Proofs.Ytbdbmcdcjejffaa
