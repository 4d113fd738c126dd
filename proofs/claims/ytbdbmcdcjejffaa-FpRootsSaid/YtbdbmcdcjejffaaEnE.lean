/- Rows of operations in their order, and regions that draw their order. -/
import Derived.Test.YtbdbmcdcjejffaaEnD
set_option linter.unusedVariables false
set_option linter.unusedSimpArgs false
set_option linter.unusedSectionVars false
namespace Go.Sh
open Go.RowKit

section
variable {A : Type} [Atom A]

theorem wants_is {β : Adr} {st : St A} {a : Act} {ops : Array Oper} {o : Oper} {b : Bool} (ht : TRel β st.t a)
    (h : wants ops.toList st o = some b) : Region.wanted o (yielded ops a.tmps) = b := by
  unfold wants at h
  unfold Region.wanted
  split at h
  · rename_i hg
    simp at h
    subst h
    simp [hg]
  · rename_i j want hg
    simp only [hg]
    split at h
    · rename_i oj hj
      split at h
      · rename_i d hd
        rw [nth_eq] at hj
        have hj' : ops[j]? = some oj := by simpa using hj
        have key : ∀ (tv : TV A), nth st.t d = some tv → ∃ v, a.tmps[d]? = some v ∧ tv.Is β v := by
          intro tv e
          obtain ⟨v, hv, hi⟩ := ht.tmps.nth e
          exact ⟨v, by simpa using hv, hi⟩
        split at h
        · rename_i he
          obtain ⟨v, hv, hi⟩ := key _ he
          obtain ⟨vs, h1, rfl⟩ := hi
          simp at h
          subst h
          simp [yielded, hj', hd, hv]
        · rename_i tv hne he
          obtain ⟨v, hv, hi⟩ := key _ he
          split at h
          · rename_i b' hb
            simp at h
            subst h
            have := boolOf_is hi hb
            subst this
            simp [yielded, hj', hd, hv]
          · cases h
        · cases h
      · cases h
    · cases h

omit [Atom A] in
theorem putT_vc (s : St A) (d : Option Tmp) (v : TV A) : (putT s d v).vc = s.vc := by cases d <;> rfl
omit [Atom A] in
theorem putT_m (s : St A) (d : Option Tmp) (v : TV A) : (putT s d v).m = s.m := by cases d <;> rfl
omit [Atom A] in
theorem putT_rd (s : St A) (d : Option Tmp) (v : TV A) : (putT s d v).rd = s.rd := by cases d <;> rfl
omit [Atom A] in
theorem putT_pd (s : St A) (d : Option Tmp) (v : TV A) : (putT s d v).pd = s.pd := by cases d <;> rfl

theorem execOps_vc {c : Cfg A} {ops : List Oper} : ∀ {l : List Oper} {st st' : St A}, execOps c ops l st = some st' → ∀ p ∈ st.vc, p ∈ st'.vc
  | [], st, st', h => by simp [execOps] at h; subst h; exact fun _ h => h
  | o :: rest, st, st', h => by
    simp only [execOps] at h
    split at h
    · split at h
      · rename_i st1 h1
        intro p hp
        exact execOps_vc h p (exec1_vc h1 p hp)
      · cases h
    · intro p hp
      exact execOps_vc h p (by rw [putT_vc]; exact hp)
    · cases h

theorem execOps_sound {c : Cfg A} (hc : CfgOK c) {X : Nat → Prop} {W0 : World} {ops : Array Oper} {r : Option Nat} {n : Nat} {Q : Exit → Act → World → Prop} :
    ∀ {l : List Oper} {st st' : St A} {β : Adr} {a : Act} {W : World}, execOps c ops.toList l st = some st' → (∀ p ∈ st'.vc, p) → Rel c X W0 β st a W →
      (∀ β' a' W', Adr.le β β' → Rel c X W0 β' st' a' W' → Q .normal a' W') → wpListIn (Fr r) n c.P ops Q l a W
  | [], st, st', β, a, W, h, _, hr, hQ => by
    simp [execOps] at h; subst h
    exact hQ β a W (Adr.le_refl β) hr
  | o :: rest, st, st', β, a, W, h, hvc, hr, hQ => by
    simp only [execOps] at h
    split at h
    · rename_i hw
      split at h
      · rename_i st1 h1
        have hv1 : ∀ p ∈ st1.vc, p := fun p hp => hvc p (execOps_vc h p hp)
        have hwant := wants_is (ops := ops) hr.t hw
        refine wpListIn_step fun K hK => ?_
        rw [if_pos hwant]
        refine exec1_sound (r := r) (n := n) hc hr h1 hv1 K Q ?_
        rintro v W' ⟨β', hle, hr'⟩
        exact hK _ _ (execOps_sound hc h hvc hr' (fun β'' a'' W'' hle' hr'' => hQ β'' a'' W'' (Adr.le_trans hle hle') hr''))
      · cases h
    · rename_i hw
      have hwant := wants_is (ops := ops) hr.t hw
      refine wpListIn_step fun K hK => ?_
      rw [if_neg (by rw [hwant]; simp)]
      refine ⟨fun _ _ => trivial, hK _ _ (execOps_sound hc h hvc (β := β) ⟨?_, ?_, ?_, by rw [put_defers]; exact hr.d, by rw [putT_pd]; exact hr.y⟩ hQ)⟩
      · exact TRel.put hr.t (undefT_is β)
      · rw [putT_m]; exact hr.m
      · rw [putT_m]; exact hr.top
    · cases h

/-! ### A region that draws its order: a head whose operations only read (or lay new blocks), in whatever order; behind it a tail, in its order. -/

/-- May an operation stand in a head? -/
def headOp : Op → Bool
  | .alloc _ | .move _ | .pick .. | .fieldAddr .. | .field .. | .indexAddr .. | .index .. | .load .. | .extract .. | .binOp .. | .unOp .. | .convert .. | .build .. | .slice .. | .makeFunc .. => true
  | .call { callee := .value (.func _), args := _, argTypes := _ } => true
  | .call { callee := .builtin .len, args := _, argTypes := _ } => true
  | .call { callee := .builtin .max, args := _, argTypes := _ } => true
  | .call { callee := .builtin .min, args := _, argTypes := _ } => true
  | _ => false

def headLen : List Oper → Nat
  | [] => 0
  | o :: l => if headOp o.op then headLen l + 1 else 0

def waits (o : Oper) (j : Nat) : Bool := o.after.toList.any fun e => Region.binds .any e && e.on == j

/-- The slots that an operation looks at. -/
def looks (ops : List Oper) (o : Oper) : List Nat :=
  o.op.operands.toList.filterMap (fun | .tmp t => some t | _ => none) ++
  (match o.guard with | some (j, _) => (match nth ops j with | some oj => oj.dst.toList | none => []) | none => [])

/-- What operation i of the head looks at comes from ahead of the region, or of an operation that it waits for. (ds: the slots that the head writes, with the operations' numbers.) -/
def readsOK (ops : List Oper) (ds : List (Nat × Nat)) (i : Nat) (o : Oper) : Bool :=
  (looks ops o).all fun x => ds.all fun (d, j) => d != x || (decide (j < i) && waits o j)

def dsts : List Oper → Nat → List (Nat × Nat)
  | [], _ => []
  | o :: l, i =>
    match o.dst with
    | some d => (d, i) :: dsts l (i + 1)
    | none => dsts l (i + 1)

def pairsApart : List (Nat × Nat) → Bool
  | [] => true
  | (d, _) :: l => l.all (fun (e, _) => d != e) && pairsApart l

def readsAll (ops : List Oper) (ds : List (Nat × Nat)) : List Oper → Nat → Bool
  | [], _ => true
  | o :: l, i => readsOK ops ds i o && readsAll ops ds l (i + 1)

def edgesBack : List Oper → Nat → Bool
  | [], _ => true
  | o :: l, i => (o.after.toList.all fun e => !Region.binds .any e || decide (e.on < i)) && edgesBack l (i + 1)

/-- Does an operation look at no memory? -/
def pureOp : Op → Bool
  | .move _ | .pick .. | .fieldAddr .. | .field .. | .indexAddr .. | .index .. | .extract .. | .binOp .. | .unOp .. | .convert .. | .build .. | .slice .. | .makeFunc .. => true
  | _ => false

/-- May an operation of the tail come up ahead of one of the head that looks at no memory? -/
def simpleOp : Op → Bool
  | .store .. => true
  | .assign _ => true
  | op => pureOp op

/-- The first operation of a list that waits for operation i. -/
def firstWait : List Oper → Nat → Nat → Nat
  | [], _, k => k
  | o :: l, i, k => if waits o i then k else firstWait l i (k + 1)

def lateK (ops : List Oper) (n i : Nat) : Nat := firstWait (ops.drop (n + 1)) i (n + 1)

/-- Operation o (number i) of the head looks at no memory, and minds none of the tail's ahead of the first that waits for it: it may come up late. -/
def lateO (ops : List Oper) (n i : Nat) (o : Oper) : Bool :=
  pureOp o.op && o.guard.isNone &&
  ((ops.drop n).take (lateK ops n i - n)).all fun m => simpleOp m.op && m.guard.isNone &&
    (match m.dst with | some dm => (match o.dst with | some d => d != dm | none => true) && (looks ops o).all (fun x => x != dm) | none => true) &&
    (match o.dst with | some d => (looks ops m).all (fun x => x != d) | none => true)

def lateB (ops : List Oper) (n i : Nat) : Bool :=
  match nth ops i with
  | some o => lateO ops n i o
  | none => false

/-- Each operation of the head that may not be late is waited for by a later such one of the head or by the tail's first; each of the tail behind the first waits for the one ahead of it. -/
def sinks (ops : List Oper) (n : Nat) : Bool :=
  ((List.range n).all fun i => lateB ops n i || ((List.range (n - i)).any fun k => (Nat.beq (i + 1 + k) n || !lateB ops n (i + 1 + k)) && (match nth ops (i + 1 + k) with | some o => waits o i | none => false))) &&
  ((List.range (ops.length - n - 1)).all fun k => match nth ops (n + k + 1) with | some o => waits o (n + k) | none => false)

def drawOK (ops : List Oper) (n : Nat) : Bool :=
  let ds := dsts (ops.take n) 0
  (ops.take n).all (fun o => o.dst.isSome) && pairsApart ds && readsAll ops ds (ops.take n) 0 && edgesBack ops 0 && (decide (n = ops.length) || sinks ops n)

/-- The head, in the text's order; memory is read as it was ahead of it; new blocks are laid behind one another. -/
def execHead (c : Cfg A) (ops : List Oper) (m0 : Mem A) (rd : Nat) : List Oper → List (TV A) → Mem A → List Prop → Option (List (TV A) × Mem A × List Prop)
  | [], t, new, vc => some (t, new, vc)
  | o :: rest, t, new, vc =>
    match o.dst with
    | none => none
    | some d =>
      if d < t.length then
        match o.op with
        | .alloc ty =>
          match o.guard, zeroT c.P ty with
          | none, some cells => execHead c ops m0 rd rest (setN t d (.val false [.p (m0.length + new.length) 0])) (new ++ [some ⟨cells, ty, false⟩]) vc
          | _, _ => none
        | op =>
          match wants ops ⟨t, m0, rd, [], []⟩ o with
          | some true =>
            match opV c ⟨t, m0, rd, [], []⟩ op with
            | some (v, vc2) => execHead c ops m0 rd rest (setN t d (decT c rd (some d) v).1) new ((decT c rd (some d) v).2 ++ (vc2 ++ vc))
            | none => none
          | some false => execHead c ops m0 rd rest (setN t d undefT) new vc
          | none => none
      else none

def execDraw (c : Cfg A) (ops : List Oper) (st : St A) : Option (St A) :=
  let n := headLen ops
  if drawOK ops n && c.P.follows .mixedOrders then
    match execHead c ops st.m st.rd (ops.take n) st.t [] st.vc with
    | some (t, new, vc) => execOps c ops (ops.drop n) ⟨t, st.m ++ new, st.rd, vc, st.pd⟩
    | none => none
  else none

end
end Go.Sh
