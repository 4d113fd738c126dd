/- The scalar field: inverses. -/
import Derived.Test.YtaloefkkllebeaaFa5
import Derived.Test.YtaloefkkllebeaaLk4
set_option linter.unusedVariables false
set_option linter.unusedSimpArgs false
set_option linter.unusedSectionVars false
namespace Go.Proofs.Ytaloefkkllebeaa
open Go Go.Sh
def sqq {X : Type} (M : X → X → X) : Nat → X → X
  | 0, x => x
  | n + 1, x => M (sqq M n x) (sqq M n x)
/-- Squares down to each of the places, and a product there. -/
def invGo {X : Type} (M : X → X → X) (a : X) : List Nat → Nat → X → Nat × X
  | [], last, o => (last, o)
  | v :: l, last, o => invGo M a l v (M (sqq M (last - v) o) a)
def twoN : Num := numO (UInt64.ofNat 2, UInt64.ofNat 0, UInt64.ofNat 0, UInt64.ofNat 0, UInt64.ofNat 0, UInt64.ofNat 0)
def eN : Num := rNum - twoN
def bN : Bool := decide (rNum < twoN)
section
variable (M : Fq → Fq → Fq) (O : UInt64 → Fq)
noncomputable def tblQi : List (Row A) := [rowOf A 48 (fun x : Fq × Fq × Unit => M x.1 x.2.1), rowOf A 42 (fun x : UInt64 × Unit => O x.1), rowOf A 60 (fun _ : Unit => rNum), rowOf A 15 (fun x : Num × Num × Unit => T2.mk (x.1 - x.2.1) (Cy.mk (decide (x.1 < x.2.1)))),
  rowIn Try.prog [] [] (fun _ _ => .keep) 4 52 Try.f52]
def memV (a o : Fq) (last : Int) : Mem A :=
  [some ⟨[.a (.big (.fr a))], 59, false⟩, some ⟨litq, 59, false⟩, some ⟨[.a (.big (.num eN))], 23, false⟩, some ⟨[.a (.big (.fr o))], 59, false⟩, some ⟨[.n .i64 last], 3, false⟩, some ⟨[.a (.big (.num eN))], 23, false⟩, none]
noncomputable def ysV (a : Fq) : Ys A :=
  ⟨6, [17], rangeA Try.f50 5, rangeNo Try.f50 5, slotsU 0 37 [(0, .val true [.a (.big (.fr a))]), (1, .val false [.p 0 0]), (2, .val false [.p 1 0]), (3, .val false [.p 2 0]), (4, .val false [.a (.cy bN)]), (5, .val false [.p 3 0]), (6, .val false [.p 4 0]),
    (8, .tup [(true, [.a (.big (.num eN))]), (false, [.a (.cy bN)])]), (9, .val true [.a (.big (.num rNum))]), (10, .val true [.v (.int .u64 2), lit0, lit0, lit0, lit0, lit0]), (11, .tup [(true, [.a (.big (.num eN))]), (false, [.a (.cy bN)])]), (12, .val true [.a (.big (.num eN))]), (13, .val false [.a (.cy bN)]),
    (14, .val true [.a (.big (.fr (O 1)))]), (15, .val true [.a (.big (.num eN))]), (16, .val false [.f 65 [(5, 0)]])]⟩
def yS (a o : Fq) (v last : Int) : St A := ⟨slots 0 37 [(1, .val false [.p 0 0]), (5, .val false [.p 3 0]), (6, .val false [.p 4 0]), (7, .val false [.n .i64 v])], memV a o last, 0, [], []⟩
def inSV (a o : Fq) (last i : Int) (x : UInt64) : St A := ⟨slots 0 30 [(0, .val false [.y 6]), (1, .val false [.p 5 0]), (3, .val false [.n .i64 i]), (4, .val false [.a (.u64 x)])], memV a o last, 0, [], [none]⟩
def outSV (a o : Fq) (last i : Int) : St A := ⟨slots 0 30 [(0, .val false [.y 6]), (1, .val false [.p 5 0]), (3, .val false [.n .i64 i])], memV a o last, 0, [], [none]⟩
def anySV (a o : Fq) (last : Int) : St A := ⟨slots 0 30 [(0, .val false [.y 6]), (1, .val false [.p 5 0])], memV a o last, 0, [], [none]⟩
variable (ht : TblOK Try.prog (tblQi M O))
include ht
theorem yS_loop (old : Addr → Option Value) (a o : Fq) (vI lI : Int) (v n : Nat) (hv : vI = (v : Int)) (hl : lI = ((v + n : Nat) : Int)) (hn : v + n ≤ 256) : SoundFor Try.prog old [] (.loop (loopNo Try.f50 6)) (yS a o vI lI) (.exit 2) (yS a (sqq M n o) vI vI) := by
  intro c e1 e2 e3 e4
  have h : SoundAt c (.loop (loopNo Try.f50 6)) (yS a (sqq M 0 o) vI ((v + n - 0 : Nat) : Int)) (.exit 2) (yS a (sqq M n o) vI ((v + n - n : Nat) : Int)) := by
    refine loopAt (inv := fun j => yS a (sqq M j o) vI ((v + n - j : Nat) : Int)) (N := n) (by simp) (fun j hj => ?_) ?_
    · have hz : ((v + n - (j + 1) : Nat) : Int) = ((v + n - j : Nat) : Int) - 1 := by omega
      rw [hz]
      have w1 : WrapI (((v + n - j : Nat) : Int) - 1) := wrapI (by omega) (by omega)
      have w2 : decide (((v + n - j : Nat) : Int) > vI) = true := decide_eq_true (by omega)
      show Round c _ (yS a (sqq M j o) vI ((v + n - j : Nat) : Int)) .normal (yS a (M (sqq M j o) (sqq M j o)) vI (((v + n - j : Nat) : Int) - 1))
      revert w1 w2
      generalize sqq M j o = z
      generalize ((v + n - j : Nat) : Int) = l
      intro w1 w2
      exact Round.of0 ht (says [(20, true)]) 4 [WrapI (l - 1), decide (l > vI) = true] (by kernel_rfl) ⟨w1, w2, trivial⟩ (by kernel_rfl) (by kernel_rfl) e1 e2 e3 e4
    · have w2 : decide (((v + n - n : Nat) : Int) > vI) = false := decide_eq_false (by omega)
      revert w2
      generalize sqq M n o = z
      generalize ((v + n - n : Nat) : Int) = l
      intro w2
      exact Round.of0 ht (says [(20, false)]) 4 [decide (l > vI) = false] (by kernel_rfl) ⟨w2, trivial⟩ (by kernel_rfl) (by kernel_rfl) e1 e2 e3 e4
  rw [Nat.sub_zero, show ((v + n - n : Nat) : Int) = vI by omega, ← hl] at h
  exact h
def eS (a o : Fq) (last : Int) : St A := ⟨slots 0 37 [(1, .val false [.p 0 0]), (2, .val false [.p 1 0]), (5, .val false [.p 3 0]), (6, .val false [.p 4 0])], memV a o last, 0, [], []⟩
theorem eS_loop (old : Addr → Option Value) (a o : Fq) (last : Nat) (hl : last ≤ 256) : SoundFor Try.prog old [] (.loop (loopNo Try.f50 10)) (eS a o last) (.exit 4) (eS a (sqq M last o) 0) := by
  intro c e1 e2 e3 e4
  have h : SoundAt c (.loop (loopNo Try.f50 10)) (eS a (sqq M 0 o) ((last - 0 : Nat) : Int)) (.exit 4) (eS a (sqq M last o) ((last - last : Nat) : Int)) := by
    refine loopAt (inv := fun j => eS a (sqq M j o) ((last - j : Nat) : Int)) (N := last) (by simp) (fun j hj => ?_) ?_
    · have hz : ((last - (j + 1) : Nat) : Int) = ((last - j : Nat) : Int) - 1 := by omega
      rw [hz]
      have w1 : WrapI (((last - j : Nat) : Int) - 1) := wrapI (by omega) (by omega)
      have w2 : decide (((last - j : Nat) : Int) > 0) = true := decide_eq_true (by omega)
      show Round c _ (eS a (sqq M j o) ((last - j : Nat) : Int)) .normal (eS a (M (sqq M j o) (sqq M j o)) (((last - j : Nat) : Int) - 1))
      revert w1 w2
      generalize sqq M j o = z
      generalize ((last - j : Nat) : Int) = l
      intro w1 w2
      exact Round.of0 ht (says [(30, true)]) 4 [WrapI (l - 1), decide (l > 0) = true] (by kernel_rfl) ⟨w1, w2, trivial⟩ (by kernel_rfl) (by kernel_rfl) e1 e2 e3 e4
    · have w2 : decide (((last - last : Nat) : Int) > 0) = false := decide_eq_false (by omega)
      revert w2
      generalize sqq M last o = z
      generalize ((last - last : Nat) : Int) = l
      intro w2
      exact Round.of0 ht (says [(30, false)]) 4 [decide (l > 0) = false] (by kernel_rfl) ⟨w2, trivial⟩ (by kernel_rfl) (by kernel_rfl) e1 e2 e3 e4
  rw [Nat.sub_zero, Nat.sub_self] at h
  exact h
/-- Yield, where its squares are told. -/
noncomputable def lpV (a o : Fq) (vI lI : Int) (n : Nat) : Nat → Option (St A × Ex × St A) := lps [(6, yS a o vI lI, .exit 2, yS a (sqq M n o) vI vI)]
theorem yfV (old : Addr → Option Value) (a o : Fq) (vI lI : Int) (v n : Nat) (hv : vI = (v : Int)) (hl : lI = ((v + n : Nat) : Int)) (hn : v + n ≤ 256) : YFOK Try.prog old [ysV O a] (pushY (exec (cfgW Try.prog (tblQi M O) [] (fun _ _ => .keep) old (lpV M a o vI lI n) [] noYield) 4 (ysV O a).assign) (exec (cfgW Try.prog (tblQi M O) [] (fun _ _ => .keep) old (lpV M a o vI lI n) [] noYield) 4 (ysV O a).body) (ysV O a) noYield) := by
  refine YFOK.push (cfgOK0 ht (ITblOK.nil _) (fun _ _ => .keep) old (lpV M a o vI lI n)) 4 (ysV O a) ?_ ?_
  · intro y hy
    have : loopsOf (ysV O a).assign = [] := by kernel_rfl
    rw [this] at hy
    cases hy
  · refine LoopsFor.cons (y := .loop (loopNo Try.f50 6)) ?_ (yS_loop M O ht old a o vI lI v n hv hl hn) LoopsFor.nil _ rfl rfl rfl rfl rfl
    kernel_rfl
omit ht in
theorem yf0 (old : Addr → Option Value) (a : Fq) : YFOK Try.prog old [ysV O a] (pushY (exec (cfg Try.prog [] (fun _ _ => .keep) old) 4 (ysV O a).assign) (exec (cfg Try.prog [] (fun _ _ => .keep) old) 4 (ysV O a).body) (ysV O a) noYield) :=
  YFOK.push (cfgOK0 (TblOK.nil _) (ITblOK.nil _) (fun _ _ => .keep) old noLoop) 4 (ysV O a) (loopsOK_none _ _ _ _ _ _ _ _) (loopsOK_none _ _ _ _ _ _ _ _)
section
variable {old : Addr → Option Value} {k : Cfg A} (a : Fq) (e1 : k.P = Try.prog) (e2 : k.gl = (fun _ => none)) (e3 : k.old = old) (e4 : k.ys = [ysV O a])
include e1 e2 e3 e4
theorem inSV_one (o : Fq) (lI i : Int) (x : UInt64) (v n : Nat) (hv : 64 * i + ((blN x.toNat : Int) - 1) = (v : Int)) (hl : lI = ((v + n : Nat) : Int)) (hn : v + n ≤ 256) (h0 : ((x.toNat : Int) != 0) = true) (w1 : WrapI ((blN x.toNat : Int) - 1)) (w2 : WrapI (64 * i)) (w3 : WrapI (64 * i + ((blN x.toNat : Int) - 1))) :
    Round k (loopNo Try.f65 4) (inSV a o lI i x) .normal (inSV a (M (sqq M n o) a) (64 * i + ((blN x.toNat : Int) - 1)) i (clrW x)) := by
  exact Round.of (.cons len64_ok.row (.nil _)) (ITblOK.nil _) (says [(14, true), (24, false)]) noLoop (yfV M O ht old a o (64 * i + ((blN x.toNat : Int) - 1)) lI v n hv hl hn) 4
    [(0 : Int) ≤ ((UInt64.ofNat (((blN x.toNat : Int) - 1) % 18446744073709551616).toNat).toNat : Int), ToldIs (yS a o (64 * i + ((blN x.toNat : Int) - 1)) lI), WrapI (64 * i + ((blN x.toNat : Int) - 1)), WrapI (64 * i), WrapI ((blN x.toNat : Int) - 1), ((x.toNat : Int) != 0) = true]
    loopsFor_none (by kernel_rfl) ⟨by omega, toldIs _, w3, w2, w1, h0, trivial⟩ (by kernel_rfl) (by kernel_rfl) e1 e2 e3 e4
omit ht in
theorem inSV_end (o : Fq) (lI i : Int) (x : UInt64) (h0 : ((x.toNat : Int) != 0) = false) :
    Round k (loopNo Try.f65 4) (inSV a o lI i x) (.exit 2) (outSV a o lI i) :=
  Round.of (.cons len64_ok.row (.nil _)) (ITblOK.nil _) (says [(14, false)]) noLoop (yf0 O old a) 4 [((x.toNat : Int) != 0) = false] loopsFor_none (by kernel_rfl) ⟨h0, trivial⟩ (by kernel_rfl) (by kernel_rfl) e1 e2 e3 e4
omit ht in
theorem outSV_end (o : Fq) (lI : Int) : Round k (loopNo Try.f65 1) (outSV a o lI (-1)) (.exit 0) (anySV a o lI) :=
  Round.of (TblOK.nil _) (ITblOK.nil _) (says [(7, false)]) noLoop (yf0 O old a) 4 [decide ((-1 : Int) ≥ 0) = false] loopsFor_none (by kernel_rfl) ⟨by decide, trivial⟩ (by kernel_rfl) (by kernel_rfl) e1 e2 e3 e4
omit ht in
theorem outSV_one (o o' : Fq) (lI lI' : Int) (i : Nat) (hi : i < 6)
    (hin : SoundFor Try.prog old [ysV O a] (.loop (loopNo Try.f65 4)) (inSV a o lI i (wN eN i)) (.exit 2) (outSV a o' lI' i)) :
    Round k (loopNo Try.f65 1) (outSV a o lI i) .normal (outSV a o' lI' ((i : Int) - 1)) := by
  refine Round.of (TblOK.nil _) (ITblOK.nil _) (says [(7, true)]) (lps [(4, inSV a o lI i (wN eN i), .exit 2, outSV a o' lI' i)]) (yf0 O old a) 4
    [WrapI ((i : Int) - 1), ToldIs (inSV a o lI i (wN eN i)), Idx (i : Int) 6, decide ((i : Int) ≥ 0) = true] (LoopsFor.cons ?_ hin LoopsFor.nil) (by kernel_rfl) ⟨wrapI (by omega) (by omega), toldIs _, ⟨by omega, by omega⟩, decide_eq_true (by omega), trivial⟩ (by kernel_rfl) (by kernel_rfl) e1 e2 e3 e4
  kernel_rfl
end
end
end Go.Proofs.Ytaloefkkllebeaa
