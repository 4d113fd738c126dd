/- Told loops, by their numbers; rounds, by runs. -/
import Derived.Test.YtbdbmcdcjejffaaEnK
set_option linter.unusedVariables false
set_option linter.unusedSimpArgs false
set_option linter.unusedSectionVars false
namespace Go.Sh
open Go.RowKit

/-- What is asked of numbers, of places. -/
abbrev WrapI (z : Int) : Prop := IntKind.i64.wrap z = z
abbrev Idx (z : Int) (n : Nat) : Prop := 0 ≤ z ∧ z < n
theorem wrapI {z : Int} (h1 : -9223372036854775808 ≤ z) (h2 : z < 9223372036854775808) : WrapI z := by
  simp only [WrapI, IntKind.wrap, IntKind.bits, IntKind.signed]
  have e : (2 : Int) ^ 64 = 18446744073709551616 := by decide
  have e' : (2 : Int) ^ (64 - 1) = 9223372036854775808 := by decide
  simp only [e, e', Bool.true_and, decide_eq_true_eq]
  split <;> omega

section
variable {A : Type}

/-- Slots i .. i + n - 1: those of a list (in order), the others forgotten. -/
def slots : Nat → Nat → List (Nat × TV A) → List (TV A)
  | _, 0, _ => []
  | i, n + 1, l =>
    match l with
    | (j, v) :: r => match Nat.beq i j with | true => v :: slots (i + 1) n r | false => .any :: slots (i + 1) n l
    | [] => .any :: slots (i + 1) n []

/-- Are two rows as long as one another? -/
def sameLen {α : Type} : List α → List α → Bool
  | [], [] => true
  | _ :: l, _ :: r => sameLen l r
  | _, _ => false
theorem sameLen_eq {α : Type} : ∀ {l r : List α}, sameLen l r = true → l.length = r.length
  | [], [], _ => rfl
  | _ :: l, _ :: r, h => congrArg (· + 1) (sameLen_eq (l := l) (r := r) h)
  | [], _ :: _, h => by cases h
  | _ :: _, [], h => by cases h

/-- Has a loop this number? -/
def hasNo (id : Nat) (x : Code) : Bool :=
  match firstRegion x with
  | some i => Nat.beq i id
  | none => false

def findNo (id : Nat) : List Code → Code
  | [] => .skip
  | x :: l => match hasNo id x with | true => x | false => findNo id l

/-- The body of a loop. -/
def bodyOf : Code → Code
  | .loop x => x
  | x => x

/-- The body of the loop of this number in a function. -/
def loopNo (fn : Func) (id : Nat) : Code :=
  match fn.body with
  | some x => bodyOf (findNo id (loopsOf x))
  | none => .skip

/-- The body of the loop over a function, of this number, in a function. -/
def rangeNo (fn : Func) (id : Nat) : Code :=
  match fn.body with
  | some x => (match findNo id (loopsOf x) with | .rangeFunc _ _ _ y => y | y => y)
  | none => .skip

/-- Told loops. -/
def lps : List (Nat × St A × Ex × St A) → Nat → Option (St A × Ex × St A)
  | [], _ => none
  | (j, x) :: l, i => match Nat.beq i j with | true => some x | false => lps l i
end

section
variable {A : Type} [Atom A]

/-- What a told loop asks of the state ahead of it, where that is what it is told to be. -/
def ToldIs (pre : St A) : Prop := (pre.t, pre.m, pre.m.length, pre.pd) = (pre.t, pre.m, pre.m.length, pre.pd)
omit [Atom A] in
theorem toldIs (pre : St A) : ToldIs pre := rfl

/-- What a told loop does, whatever else the settings are. -/
def SoundFor (P : Program) (old : Addr → Option Value) (ys : List (Ys A)) (y : Code) (pre : St A) (e : Ex) (post : St A) : Prop :=
  ∀ c : Cfg A, c.P = P → c.gl = (fun _ => none) → c.old = old → c.ys = ys → SoundAt c y pre e post

theorem SoundAt.like {c c' : Cfg A} (h : Like c c') {y : Code} {pre : St A} {e : Ex} {post : St A} (hs : SoundAt c y pre e post) : SoundAt c' y pre e post := by
  intro r n X W0 Q β a W hrnd hr hQ
  rw [h.P]
  exact hs r n X W0 Q β a W hrnd (hr.like h.symm) (fun β' a' W' hle hr' => hQ β' a' W' hle (hr'.like h))

theorem LoopsFor.nil {P : Program} {old : Addr → Option Value} {ys : List (Ys A)} {x : Code} : LoopsFor P old ys (lps []) x :=
  fun c _ _ _ _ hlp _ _ i pre e post _ h => by rw [hlp] at h; cases h

def filterNo (id : Nat) : List Code → List Code
  | [] => []
  | x :: l => match hasNo id x with | true => x :: filterNo id l | false => filterNo id l

theorem filterNo_mem {id : Nat} {x : Code} : ∀ {l : List Code}, x ∈ l → firstRegion x = some id → x ∈ filterNo id l
  | z :: l, hz, e => by
    unfold filterNo
    rcases List.mem_cons.1 hz with rfl | hz
    · have h2 : hasNo id x = true := by simp [hasNo, e]
      rw [h2]
      simp
    · have := filterNo_mem hz e
      split
      · exact List.mem_cons_of_mem _ this
      · exact this
  | [], h, _ => by cases h

theorem LoopsFor.cons {P : Program} {old : Addr → Option Value} {ys : List (Ys A)} {x y : Code} {id : Nat} {pre post : St A} {e : Ex} {l : List (Nat × St A × Ex × St A)} (hy : filterNo id (loopsOf x) = [y]) (hs : SoundFor P old ys y pre e post)
    (h : LoopsFor P old ys (lps l) x) : LoopsFor P old ys (lps ((id, pre, e, post) :: l)) x := by
  intro c e1 e2 e3 e4 e5 z hz i pre' e' post' hi hlp
  rw [e5] at hlp
  unfold lps at hlp
  split at hlp
  · rename_i hb
    have := Nat.eq_of_beq_eq_true hb
    subst this
    obtain ⟨rfl, rfl, rfl⟩ : pre = pre' ∧ e = e' ∧ post = post' := by
      have := Option.some.inj hlp
      simp only [Prod.mk.injEq] at this
      exact this
    have hm := filterNo_mem hz hi
    rw [hy] at hm
    rw [List.mem_singleton.1 hm]
    exact hs c e1 e2 e3 e4
  · exact SoundAt.like (c := { c with lp := lps l }) (c' := c) ⟨rfl, rfl, rfl, rfl⟩ (h { c with lp := lps l } e1 e2 e3 e4 rfl z hz i pre' e' post' hi hlp)

/-- A round, by a run. -/
theorem Round.of {P : Program} {tbl : List (Row A)} (ht : TblOK P tbl) {its : List (IRow A)} (hi : ITblOK P its) (orc : Nat → Nat → Dec) {old : Addr → Option Value} (lp : Nat → Option (St A × Ex × St A)) {ys : List (Ys A)} {yf : YF A} (hy : YFOK P old ys yf) (fuel : Nat)
    {x : Code} {s s' : St A} {e : Ex} (vc : List Prop) (hl : LoopsFor P old ys lp x)
    (h : (exec (cfgW P tbl its orc old lp ys yf) fuel x ⟨s.t, s.m, 0, [], s.pd⟩).map (fun q => (q.1, maskT s'.t q.2.t, maskM s'.m q.2.m, q.2.pd, q.2.vc)) = some (e, s'.t, s'.m, s'.pd, vc)) (hvc : All vc)
    (hlow : (lowSt s' && (ys.all fun z => lowTs s'.m.length z.t)) = true) (hlen : sameLen s'.m s.m = true) {c : Cfg A} (e1 : c.P = P) (e2 : c.gl = (fun _ => none)) (e3 : c.old = old) (e4 : c.ys = ys) : Round c x s e s' := by
  refine ⟨cfgW P tbl its orc old lp ys yf, fuel, s'.t, s'.m, vc, ⟨e1.symm, e2.symm, e3.symm, e4.symm⟩, cfgOK ht hi orc lp hy, hl _ rfl rfl rfl rfl rfl, h, hvc.mem, rfl, rfl, by rw [e4]; exact hlow, sameLen_eq hlen⟩

/-- The same outside of loops over functions. -/
theorem Round.of0 {P : Program} {tbl : List (Row A)} (ht : TblOK P tbl) (orc : Nat → Nat → Dec) {old : Addr → Option Value} (fuel : Nat)
    {x : Code} {s s' : St A} {e : Ex} (vc : List Prop)
    (h : (exec (cfgW P tbl [] orc old noLoop [] noYield) fuel x ⟨s.t, s.m, 0, [], s.pd⟩).map (fun q => (q.1, maskT s'.t q.2.t, maskM s'.m q.2.m, q.2.pd, q.2.vc)) = some (e, s'.t, s'.m, s'.pd, vc)) (hvc : All vc)
    (hlow : (lowSt s' && true) = true) (hlen : sameLen s'.m s.m = true) {c : Cfg A} (e1 : c.P = P) (e2 : c.gl = (fun _ => none)) (e3 : c.old = old) (e4 : c.ys = []) : Round c x s e s' :=
  Round.of ht (ITblOK.nil P) orc noLoop (YFOK.none P old) fuel vc loopsFor_none h hvc hlow hlen e1 e2 e3 e4
end
end Go.Sh
