/- Trees, level by level: Root. -/
import Derived.Test.YtaloefkkllebeaaDoorSj4
set_option linter.unusedVariables false
set_option linter.unusedSimpArgs false
set_option linter.unusedSectionVars false
namespace Go.Proofs.YtaloefkkllebeaaDoor
open Go Go.Sh
def knS (B : Nat → UInt8) (n : Nat) : SV A := .kn (fun i => .u8 (B i)) 0 n 32
def maxI (n : Int) : Int := extI true n 0
section
variable (g : Spot) (l : List (R8 32)) (lim : Int)
def dR (lim : Int) : Nat := depQ (maxI lim)
def memR (o z : Nat → UInt8) : Mem A :=
  [some ⟨zer8 32, 25, false⟩, some ⟨[.a (.w8 32 o)], 25, false⟩, some ⟨[rsE g l], 59, false⟩, some ⟨[.n .i64 (dR lim : Int)], 3, false⟩, none, none, some ⟨[.a (.w8 32 z)], 25, false⟩]
noncomputable def ysR : Ys A :=
  ⟨4, [20, 21], rangeA Tryd.f53 6, rangeNo Tryd.f53 6,
    slotsU 0 30 [(0, .val false [rsE g l]), (1, .val false [.n .i64 (maxI lim)]), (4, .val false [.p 0 0]), (5, .val false [.v (.int .i64 0)]), (6, .val false [.p 1 0]), (9, .val false [.n .i64 lim]), (10, .val false [.n .i64 (maxI lim)]), (11, .val false [rsE g l]), (12, .val false [.n .i64 (l.length : Int)]), (13, .val false [.n .i64 (maxI lim)]), (14, .val false [.v (.bool false)]),
      (16, .val false [rsE g l]), (17, .val false [.n .i64 (maxI lim)]), (18, .val false [.n .i64 (dR lim : Int)]), (19, .val false [.f 123 [(2, 0), (3, 0)]])]⟩
/-- A level up, under way. -/
def inU (Pr : R8 32 → R8 32 → R8 32) (o z : Nat → UInt8) (B : Nat → UInt8) (n k : Nat) (f : Nat → A) (j : Nat) : St A :=
  ⟨slots 0 51 [(0, .val false [.y 4]), (1, .val false [.p 2 0]), (2, .val false [.p 3 0]), (4, .val false [knS B n]), (5, .val false [.p 6 0]), (6, .val false [.gr f 8 j j 32]), (7, .val false [.n .i64 (two j : Int)]), (12, .val false [.n .i64 ((dR lim : Int) + 1)]), (13, .val false [.n .i64 (k : Int)])],
    memR g l lim o z ++ [none, some ⟨[.mk j (c32 j)], 25, false⟩], 0, [], [none]⟩
section
variable {Pr : R8 32 → R8 32 → R8 32} (ht : TblOK Tryd.prog (tblSp' Pr)) {W : World} (hr : RoundsIn W.cell?)
noncomputable def yfR (Pr : R8 32 → R8 32 → R8 32) (old : Addr → Option Value) (b : Bool) : YF A := pushY (exec (cfg Tryd.prog [] (says [(25, b)]) old) 4 (ysR g l lim).assign) (exec (cfg Tryd.prog [] (says [(25, b)]) old) 4 (ysR g l lim).body) (ysR g l lim) noYield
theorem yfR_ok (old : Addr → Option Value) (b : Bool) : YFOK Tryd.prog old [ysR g l lim] (yfR g l lim Pr old b) :=
  YFOK.push (cfgOK0 (TblOK.nil _) (ITblOK.nil _) (says [(25, b)]) old noLoop) 4 (ysR g l lim) (loopsOK_none _ _ _ _ _ _ _ _) (loopsOK_none _ _ _ _ _ _ _ _)
variable {c : Cfg A} (e1 : c.P = Tryd.prog) (e2 : c.gl = (fun _ => none)) (e3 : c.old = W.cell?) (e4 : c.ys = [ysR g l lim])
include ht hr e1 e2 e3 e4
theorem inU_one (o z B : Nat → UInt8) (n k j : Nat) (hn : n < 1048576) (hj : two j < n) :
    Round c (loopNo Tryd.f123 7) (inU g l lim Pr o z B n k (upF Pr B n z j) j) .normal (inU g l lim Pr o z B n k (upF Pr B n z (j + 1)) (j + 1)) := by
  have w1 : WrapI ((two j : Int) + 1) := wI (by omega) (by omega)
  have w2 : WrapI ((two j : Int) + 2) := wI (by omega) (by omega)
  have h2 := two_eq j
  have gr : j = j ∧ timesN j (31 + 1) = c32 j ∧ Sh.Bears (j + 1) 32 := ⟨rfl, by rw [timesN_eq, c32_eq]; omega, by unfold Sh.Bears maxLen; omega⟩
  have lt : decide ((two j : Int) < (n : Int)) = true := decide_eq_true (by omega)
  have i0 : IX (two j : Int) n := ⟨by omega, by omega⟩
  cases hm : decide ((two j : Int) + 1 < (n : Int)) with
  | true =>
    have e : riU B n z j = elR B ((two j + 1) * 32) := by unfold riU; rw [hm]
    have e' : upF Pr B n z (j + 1) = catF (upF Pr B n z j) (timesN j (31 + 1)) (cells32 (Pr ⟨elR B (two j * 32)⟩ ⟨elR B ((two j + 1) * 32)⟩).f) 0 := by show catF _ _ (cells32 (Pr _ ⟨riU B n z j⟩).f) 0 = _; rw [e]
    rw [e']
    generalize upF Pr B n z j = f
    have i1 : IX ((two j : Int) + 1) n := ⟨by omega, by have := of_decide_eq_true hm; omega⟩
    exact Round.of ht (ITblOK.nil _) (saysY []) noLoop (yfR_ok (Pr := Pr) g l lim W.cell? true) 6 [WrapI ((two j : Int) + 2), j = j ∧ timesN j (31 + 1) = c32 j ∧ Sh.Bears (j + 1) 32, RoundsIn W.cell?, IX (two j : Int) n, IX ((two j : Int) + 1) n, WrapI ((two j : Int) + 1), decide ((two j : Int) + 1 < (n : Int)) = true, WrapI ((two j : Int) + 1), decide ((two j : Int) < (n : Int)) = true]
      loopsFor_none (by kernel_rfl) ⟨w2, gr, hr, i0, i1, w1, hm, w1, lt, trivial⟩ (by kernel_rfl) (by kernel_rfl) e1 e2 e3 e4
  | false =>
    have e : riU B n z j = z := by unfold riU; rw [hm]
    have e' : upF Pr B n z (j + 1) = catF (upF Pr B n z j) (timesN j (31 + 1)) (cells32 (Pr ⟨elR B (two j * 32)⟩ ⟨z⟩).f) 0 := by show catF _ _ (cells32 (Pr _ ⟨riU B n z j⟩).f) 0 = _; rw [e]
    rw [e']
    generalize upF Pr B n z j = f
    exact Round.of ht (ITblOK.nil _) (saysY [(31, false)]) noLoop (yfR_ok (Pr := Pr) g l lim W.cell? true) 6 [WrapI ((two j : Int) + 2), j = j ∧ timesN j (31 + 1) = c32 j ∧ Sh.Bears (j + 1) 32, RoundsIn W.cell?, IX (two j : Int) n, decide ((two j : Int) + 1 < (n : Int)) = false, WrapI ((two j : Int) + 1), decide ((two j : Int) < (n : Int)) = true]
      loopsFor_none (by kernel_rfl) ⟨w2, gr, hr, i0, hm, w1, lt, trivial⟩ (by kernel_rfl) (by kernel_rfl) e1 e2 e3 e4
theorem inU_end (o z B : Nat → UInt8) (n k N : Nat) (f : Nat → A) (hj : n ≤ two N) :
    Round c (loopNo Tryd.f123 7) (inU g l lim Pr o z B n k f N) (.exit 2) (inU g l lim Pr o z B n k f N) :=
  Round.of ht (ITblOK.nil _) (saysY [(23, false)]) noLoop (yfR_ok (Pr := Pr) g l lim W.cell? true) 6 [decide ((two N : Int) < (n : Int)) = false]
    loopsFor_none (by kernel_rfl) ⟨decide_eq_false (by omega), trivial⟩ (by kernel_rfl) (by kernel_rfl) e1 e2 e3 e4
end
/-- A level up. -/
theorem inU_all {Pr : R8 32 → R8 32 → R8 32} (ht : TblOK Tryd.prog (tblSp' Pr)) {W : World} (hr : RoundsIn W.cell?) (o z B : Nat → UInt8) (n k : Nat) (hn : n < 1048576) :
    SoundFor Tryd.prog W.cell? [ysR g l lim] (.loop (loopNo Tryd.f123 7)) (inU g l lim Pr o z B n k (fun _ => Atom.dummy) 0) (.exit 2) (inU g l lim Pr o z B n k (fun i => .u8 (upB Pr B n z ((n + 1) / 2) i)) ((n + 1) / 2)) := by
  rw [← upF_fun]
  exact fun c q1 q2 q3 q4 => loopAt (c := c) (inv := fun j => inU g l lim Pr o z B n k (upF Pr B n z j) j) (N := (n + 1) / 2) (by simp)
    (fun j hj => inU_one g l lim ht hr q1 q2 q3 q4 o z B n k j hn (by rw [two_eq]; omega)) (inU_end g l lim ht hr q1 q2 q3 q4 o z B n k _ _ (by rw [two_eq]; omega))
/-- The levels, under way. -/
def outU (o z : Nat → UInt8) (B : Nat → UInt8) (n k : Nat) : St A :=
  ⟨slots 0 51 [(0, .val false [.y 4]), (1, .val false [.p 2 0]), (2, .val false [.p 3 0]), (4, .val false [knS B n]), (5, .val false [.p 6 0]), (12, .val false [.n .i64 ((dR lim : Int) + 1)]), (13, .val false [.n .i64 (k : Int)])],
    memR g l lim o z, 0, [], [none]⟩
def oV (B : Nat → UInt8) (n : Nat) (z : Nat → UInt8) : Nat → UInt8 := match decide ((n : Int) > 0) with | true => elR B 0 | false => z
section
variable {Pr : R8 32 → R8 32 → R8 32} (ht : TblOK Tryd.prog (tblSp' Pr)) {W : World} (hr : RoundsIn W.cell?)
variable {c : Cfg A} (e1 : c.P = Tryd.prog) (e2 : c.gl = (fun _ => none)) (e3 : c.old = W.cell?) (e4 : c.ys = [ysR g l lim])
/-- The level's first append makes the row that grows. -/
def orG (l : List (Nat × Bool)) : Nat → Nat → Dec := fun r t => match Nat.beq t 6 with | true => .grow 25 32 | false => saysY l r t
include ht hr e1 e2 e3 e4
theorem outU_one (o z B : Nat → UInt8) (n k : Nat) (hn : n < 1048576) (hk : k < dR lim + 1) (hd : dR lim ≤ 62) :
    Round c (loopNo Tryd.f123 3) (outU g l lim o z B n k) .normal (outU g l lim (oV B n z) (Pr ⟨z⟩ ⟨z⟩).f (upB Pr B n z ((n + 1) / 2)) ((n + 1) / 2) (k + 1)) := by
  have w1 : WrapI ((k : Int) + 1) := wI (by omega) (by omega)
  have lt : decide ((k : Int) < (dR lim : Int) + 1) = true := decide_eq_true (by omega)
  cases hm : decide ((n : Int) > 0) with
  | true =>
    have e : oV B n z = elR B 0 := by unfold oV; rw [hm]
    rw [e]
    have hs := inU_all g l lim ht hr (elR B 0) z B n k hn
    revert hs
    generalize upB Pr B n z ((n + 1) / 2) = B'
    generalize (n + 1) / 2 = N
    intro hs
    have i0 : IX 0 n := ⟨by decide, by have := of_decide_eq_true hm; omega⟩
    exact Round.of ht (ITblOK.nil _) (orG []) (lps [(7, inU g l lim Pr (elR B 0) z B n k (fun _ => Atom.dummy) 0, .exit 2, inU g l lim Pr (elR B 0) z B n k (fun i => .u8 (B' i)) N)]) (yfR_ok (Pr := Pr) g l lim W.cell? true) 6
      [WrapI ((k : Int) + 1), RoundsIn W.cell?, ToldIs (inU g l lim Pr (elR B 0) z B n k (fun _ => Atom.dummy) 0), IX 0 n, decide ((n : Int) > 0) = true, decide ((k : Int) < (dR lim : Int) + 1) = true]
      (LoopsFor.cons (by kernel_rfl) hs LoopsFor.nil) (by kernel_rfl) ⟨w1, hr, toldIs _, i0, hm, lt, trivial⟩ (by kernel_rfl) (by kernel_rfl) e1 e2 e3 e4
  | false =>
    have e : oV B n z = z := by unfold oV; rw [hm]
    rw [e]
    have hs := inU_all g l lim ht hr z z B n k hn
    revert hs
    generalize upB Pr B n z ((n + 1) / 2) = B'
    generalize (n + 1) / 2 = N
    intro hs
    exact Round.of ht (ITblOK.nil _) (orG []) (lps [(7, inU g l lim Pr z z B n k (fun _ => Atom.dummy) 0, .exit 2, inU g l lim Pr z z B n k (fun i => .u8 (B' i)) N)]) (yfR_ok (Pr := Pr) g l lim W.cell? false) 6
      [WrapI ((k : Int) + 1), RoundsIn W.cell?, ToldIs (inU g l lim Pr z z B n k (fun _ => Atom.dummy) 0), decide ((n : Int) > 0) = false, decide ((k : Int) < (dR lim : Int) + 1) = true]
      (LoopsFor.cons (by kernel_rfl) hs LoopsFor.nil) (by kernel_rfl) ⟨w1, hr, toldIs _, hm, lt, trivial⟩ (by kernel_rfl) (by kernel_rfl) e1 e2 e3 e4
theorem outU_end (o z B : Nat → UInt8) (n : Nat) : Round c (loopNo Tryd.f123 3) (outU g l lim o z B n (dR lim + 1)) (.exit 0) (outU g l lim o z B n (dR lim + 1)) :=
  Round.of ht (ITblOK.nil _) (saysY [(14, false)]) noLoop (yfR_ok (Pr := Pr) g l lim W.cell? true) 6 [decide (((dR lim + 1 : Nat) : Int) < (dR lim : Int) + 1) = false]
    loopsFor_none (by kernel_rfl) ⟨decide_eq_false (by omega), trivial⟩ (by kernel_rfl) (by kernel_rfl) e1 e2 e3 e4
end
end
end Go.Proofs.YtaloefkkllebeaaDoor
