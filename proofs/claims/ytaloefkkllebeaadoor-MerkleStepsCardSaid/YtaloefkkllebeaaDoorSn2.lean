/- Steps: a walk over a place's bits. -/
import Derived.Test.YtaloefkkllebeaaDoorSn1
set_option linter.unusedVariables false
set_option linter.unusedSimpArgs false
set_option linter.unusedSectionVars false
namespace Go.Sh
def oneB (x : Bool) : Nat → A := fun j => ([(At.bo x : A)][j]?).getD (At.bo x)
/-- So many bits, behind one another. -/
def wF (ix : UInt64) : Nat → Nat → A
  | 0 => fun _ => Atom.dummy
  | k + 1 => catF (wF ix k) (timesN k (0 + 1)) (oneB (bitW ix k)) 0
theorem oneB_at (x : Bool) (j : Nat) : oneB x j = .bo x := by
  unfold oneB
  cases j <;> rfl
theorem wF_at (ix : UInt64) : ∀ (N k : Nat), k < N → wF ix N k = .bo (bitW ix k)
  | N + 1, k, hk => by
    simp only [wF, catF, timesN_eq]
    by_cases h : k < N * (0 + 1)
    · have hb : k.blt (N * (0 + 1)) = true := by rw [Nat.blt_eq]; exact h
      rw [hb]
      exact wF_at ix N k (by omega)
    · have hb : k.blt (N * (0 + 1)) = false := by rw [Bool.eq_false_iff, ne_eq, Nat.blt_eq]; exact h
      rw [hb]
      obtain rfl : k = N := by omega
      exact oneB_at _ _
def GrB (k : Nat) : Prop := k = k ∧ timesN k (0 + 1) = k ∧ Sh.Bears (k + 1) 1
theorem grB {k : Nat} (h : k < 1048576) : GrB k := ⟨rfl, by rw [timesN_eq, Nat.zero_add, Nat.mul_one], by unfold Sh.Bears maxLen; omega⟩
end Go.Sh
namespace Go.Proofs.YtaloefkkllebeaaDoor
open Go Go.Sh
section
variable (ix : UInt64) (d most : Int)
def memW (f : Nat → A) (k : Nat) : Mem A :=
  [some ⟨[.n .i64 most], 3, false⟩, some ⟨[.mk k k], 4, false⟩, some ⟨[.gr f 1 k k 1], 67, false⟩, some ⟨[.v (.bool true)], 4, false⟩, some ⟨[.a (.u64 ix)], 40, false⟩, some ⟨[.n .i64 d], 3, false⟩, none]
noncomputable def ysW : Ys A :=
  ⟨6, [19, 20], rangeA Tryd.f62 7, rangeNo Tryd.f62 7,
    slotsU 0 38 [(0, .val false [.a (.u64 ix)]), (1, .val false [.n .i64 d]), (2, .val false [.n .i64 most]), (5, .val false [.p 0 0]), (6, .val false [.v (.slice none 0 0)]), (7, .val false [.v (.bool false)]), (8, .val false [.p 2 0]), (9, .val false [.p 3 0]), (10, .val false [.f 124 [(5, 0), (4, 0)]]),
      (13, .val false [.a (.u64 ix)]), (14, .val false [.n .i64 d]), (15, .val false [.f 124 [(5, 0), (4, 0)]]), (16, .val false [.f 124 [(5, 0), (4, 0)]]), (17, .val false [.v (.bool false)]), (18, .val false [.f 124 [(5, 0), (4, 0)]])]⟩
def inW (f : Nat → A) (k : Nat) : St A :=
  ⟨slots 0 22 [(0, .val false [.y 6]), (1, .val false [.p 5 0]), (2, .val false [.p 4 0]), (7, .val false [.n .i64 (mmI d)]), (8, .val false [.n .i64 (k : Int)])], memW ix d most f k, 0, [], [none]⟩
def leftW (f : Nat → A) (k : Nat) : St A :=
  ⟨slots 0 22 [(0, .val false [.y 6]), (1, .val false [.p 5 0]), (2, .val false [.p 4 0])], memW ix d most f k, 0, [], [some (.exit 0)]⟩
def wQ (b24 : Bool) : Nat → Option Bool := fun t => match Nat.beq t 24 with | true => some b24 | false => match Nat.beq t 30 with | true => some true | false => none
def sQ (b : Bool) : Nat → Option Bool := fun t => match Nat.beq t 9 with | true => some b | false => none
noncomputable def yfW (old : Addr → Option Value) (b : Bool) : YF A := pushY (exec (cfg Tryd.prog [] (orBt (wQ b)) old) 4 (ysW ix d most).assign) (exec (cfg Tryd.prog [] (orBt (wQ b)) old) 4 (ysW ix d most).body) (ysW ix d most) noYield
theorem yfW_ok (old : Addr → Option Value) (b : Bool) : YFOK Tryd.prog old [ysW ix d most] (yfW ix d most old b) :=
  YFOK.push (cfgOK0 (TblOK.nil _) (ITblOK.nil _) (orBt (wQ b)) old noLoop) 4 (ysW ix d most) (loopsOK_none _ _ _ _ _ _ _ _) (loopsOK_none _ _ _ _ _ _ _ _)
section
variable {old : Addr → Option Value} {c : Cfg A} (e1 : c.P = Tryd.prog) (e2 : c.gl = (fun _ => none)) (e3 : c.old = old) (e4 : c.ys = [ysW ix d most])
include e1 e2 e3 e4
theorem inW_one (k : Nat) (hk : (k : Int) < mmI d) (hm : (k : Int) < most) : Round c (loopNo Tryd.f124 1) (inW ix d most (wF ix k) k) .normal (inW ix d most (wF ix (k + 1)) (k + 1)) := by
  have h64 := mmI_eq d
  have hg : GrB k := grB (by omega)
  show Round c _ _ _ (inW ix d most (catF (wF ix k) (timesN k (0 + 1)) (oneB (bitW ix k)) 0) (k + 1))
  generalize wF ix k = f
  exact Round.of (TblOK.nil _) (ITblOK.nil _) (orBt (sQ true)) noLoop (yfW_ok ix d most old false) 6
    [WrapI ((k : Int) + 1), GrB k, ((k : Int) == (k : Int)) = true, decide ((k : Int) ≥ most) = false, (0 : Int) ≤ ((cvU (k : Int)).toNat : Int), decide ((k : Int) < mmI d) = true]
    loopsFor_none (by kernel_rfl) ⟨wI (by omega) (by omega), hg, beq_self_eq_true _, decide_eq_false (by omega), by omega, decide_eq_true hk, trivial⟩ (by kernel_rfl) (by kernel_rfl) e1 e2 e3 e4
theorem inW_left (f : Nat → A) (k : Nat) (hk : (k : Int) < mmI d) (hm : most ≤ (k : Int)) : Round c (loopNo Tryd.f124 1) (inW ix d most f k) .ret (leftW ix d most f k) :=
  Round.of (TblOK.nil _) (ITblOK.nil _) (orBt (sQ true)) noLoop (yfW_ok ix d most old true) 6
    [decide ((k : Int) ≥ most) = true, (0 : Int) ≤ ((cvU (k : Int)).toNat : Int), decide ((k : Int) < mmI d) = true]
    loopsFor_none (by kernel_rfl) ⟨decide_eq_true hm, by omega, decide_eq_true hk, trivial⟩ (by kernel_rfl) (by kernel_rfl) e1 e2 e3 e4
theorem inW_end (f : Nat → A) (k : Nat) (hk : mmI d ≤ (k : Int)) : Round c (loopNo Tryd.f124 1) (inW ix d most f k) (.exit 0) (inW ix d most f k) :=
  Round.of (TblOK.nil _) (ITblOK.nil _) (orBt (sQ false)) noLoop (yfW_ok ix d most old true) 6 [decide ((k : Int) < mmI d) = false]
    loopsFor_none (by kernel_rfl) ⟨decide_eq_false (by omega), trivial⟩ (by kernel_rfl) (by kernel_rfl) e1 e2 e3 e4
end
/-- How many steps a walk takes. -/
def cntW : Nat := min (zeN d) most.toNat
noncomputable def itW (e : Ex) (st : St A) : List (IRow A) :=
  [iterW Tryd.prog [] [] (fun _ _ => .keep) (lps [(1, inW ix d most (fun _ => Atom.dummy) 0, e, st)]) 6 124 Tryd.f124]
theorem itW_ok (e : Ex) (st : St A) : ITblOK Tryd.prog (itW ix d most e st) := .cons (iterW_ok (TblOK.nil _) (ITblOK.nil _) _ _ 6 Tryd.func124 (by kernel_rfl) (by kernel_rfl)) (ITblOK.nil _)
end
def orK : Nat → Nat → Dec := fun _ t => match Nat.beq t 8 with | true => .grow 4 1 | false => .keep
def walkL (ix : UInt64) (d most : Int) : List Bool := cutBo (wF ix (cntW d most)) 0 (cntW d most)
theorem walk18_ok : Computes A Tryd.prog 62 (fun x : UInt64 × Int × Int × Unit => (⟨walkL x.1 x.2.1 x.2.2.1, true⟩ : Wz)) := by
  refine computes_of_runT Tryd.func62 (by kernel_rfl) (by kernel_rfl) 6 ?_
  rintro _ ⟨ix, d, most, ⟨⟩⟩ W -
  have h64 := mmI_eq d
  have hz := zeN_eq d
  show ∃ tbl its, _ ∧ _ ∧ ∃ orc lp y vc, _ ∧ _ ∧ y = (⟨cutBo (wF ix (cntW d most)) 0 (cntW d most), true⟩ : Wz) ∧ _
  have hu : ∀ j, j < cntW d most → isBo (wF ix (cntW d most) (0 + j)) = true := fun j hj => by rw [Nat.zero_add, wF_at ix _ _ hj]; rfl
  by_cases hb : most.toNat < zeN d
  · have hn : cntW d most = most.toNat := by unfold cntW; omega
    have hs : SoundFor Tryd.prog W.cell? [ysW ix d most] (.loop (loopNo Tryd.f124 1)) (inW ix d most (fun _ => Atom.dummy) 0) .ret (leftW ix d most (wF ix (cntW d most)) (cntW d most)) := fun c q1 q2 q3 q4 =>
      loopAt (c := c) (inv := fun k => inW ix d most (wF ix k) k) (N := cntW d most) (by simp) (fun k hk => inW_one ix d most q1 q2 q3 q4 k (by omega) (by omega)) (inW_left ix d most q1 q2 q3 q4 _ _ (by omega) (by omega))
    revert hs hu
    generalize wF ix (cntW d most) = f
    generalize cntW d most = n
    intro hu hs
    have hbd : ∀ body, Tryd.f124.body = some body → LoopsFor Tryd.prog W.cell? [ysW ix d most] (lps [(1, inW ix d most (fun _ => Atom.dummy) 0, .ret, leftW ix d most f n)]) body := fun body hb => by
      obtain rfl := Option.some.inj hb
      exact LoopsFor.cons (by kernel_rfl) hs LoopsFor.nil
    exact ⟨_, _, .cons stepsR_ok (.nil _), itW_ok ix d most .ret (leftW ix d most f n), orK, noLoop, ⟨cutBo f 0 n, true⟩, [∀ j, j < n → isBo (f (0 + j)) = true, ∀ body, Tryd.f124.body = some body → LoopsFor Tryd.prog W.cell? [ysW ix d most] (lps [(1, inW ix d most (fun _ => Atom.dummy) 0, .ret, leftW ix d most f n)]) body,
      ToldIs (inW ix d most (fun _ => Atom.dummy) 0)], by kernel_rfl, ⟨hu, hbd, toldIs _, trivial⟩, rfl, fun body _ => loopsFor_none⟩
  · have hn : cntW d most = zeN d := by unfold cntW; omega
    have hs : SoundFor Tryd.prog W.cell? [ysW ix d most] (.loop (loopNo Tryd.f124 1)) (inW ix d most (fun _ => Atom.dummy) 0) (.exit 0) (inW ix d most (wF ix (cntW d most)) (cntW d most)) := fun c q1 q2 q3 q4 =>
      loopAt (c := c) (inv := fun k => inW ix d most (wF ix k) k) (N := cntW d most) (by simp) (fun k hk => inW_one ix d most q1 q2 q3 q4 k (by omega) (by omega)) (inW_end ix d most q1 q2 q3 q4 _ _ (by omega))
    revert hs hu
    generalize wF ix (cntW d most) = f
    generalize cntW d most = n
    intro hu hs
    have hbd : ∀ body, Tryd.f124.body = some body → LoopsFor Tryd.prog W.cell? [ysW ix d most] (lps [(1, inW ix d most (fun _ => Atom.dummy) 0, .exit 0, inW ix d most f n)]) body := fun body hb => by
      obtain rfl := Option.some.inj hb
      exact LoopsFor.cons (by kernel_rfl) hs LoopsFor.nil
    exact ⟨_, _, .cons stepsR_ok (.nil _), itW_ok ix d most (.exit 0) (inW ix d most f n), orK, noLoop, ⟨cutBo f 0 n, true⟩, [∀ j, j < n → isBo (f (0 + j)) = true, ∀ body, Tryd.f124.body = some body → LoopsFor Tryd.prog W.cell? [ysW ix d most] (lps [(1, inW ix d most (fun _ => Atom.dummy) 0, .exit 0, inW ix d most f n)]) body,
      ToldIs (inW ix d most (fun _ => Atom.dummy) 0)], by kernel_rfl, ⟨hu, hbd, toldIs _, trivial⟩, rfl, fun body _ => loopsFor_none⟩
end Go.Proofs.YtaloefkkllebeaaDoor
