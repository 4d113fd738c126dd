/- SHA-256: a walk over a text's blocks. -/
import Derived.Test.YtaloefkkllebeaaDoorTc
set_option linter.unusedVariables false
set_option linter.unusedSimpArgs false
set_option linter.unusedSectionVars false
set_option maxRecDepth 100000
namespace Go.Sh
/-- A block's cells. -/
def cells64 (f : Nat → UInt8) : Nat → A := fun q => (((List.range 64).map fun i => (At.u8 (f i) : A))[q]?).getD (At.u8 (f 0))
def nG : Nat → Nat
  | 0 => 0
  | q + 1 => nG q + 64
theorem nG_eq : ∀ q, nG q = 64 * q
  | 0 => rfl
  | q + 1 => by simp only [nG, nG_eq q]; omega
/-- The blocks, behind one another. -/
def bG (l : List UInt8) : Nat → Nat → A
  | 0 => fun _ => Atom.dummy
  | q + 1 => catF (bG l q) (timesN (nG q) (0 + 1)) (cells64 (blkF l (offK q))) 0
/-- How many have come. -/
def cntS (q : Nat) : SV A := .n .i64 (q : Int)
end Go.Sh
namespace Go.Proofs.YtaloefkkllebeaaDoor
open Go Go.Sh
section
variable (g : Spot) (l : List UInt8) (most : Int)
def memK (f : Nat → A) (v n : Nat) (c : SV A) : Mem A :=
  [some ⟨[.n .i64 most], 3, false⟩, some ⟨[.mk v n], 5, false⟩, some ⟨[.gr f 1 v n 1], 22, false⟩, some ⟨[c], 3, false⟩, some ⟨[slE g l 0 l.length g.c], 22, false⟩, none]
noncomputable def ysK : Ys A :=
  ⟨5, [14], rangeA Tryd.f32 7, rangeNo Tryd.f32 7, slotsU 0 24 [(0, .val false [slE g l 0 l.length g.c]), (1, .val false [.n .i64 most]), (3, .val false [.p 0 0]), (4, .val false [.v (.slice none 0 0)]), (5, .val false [.p 2 0]), (6, .val false [.p 3 0]), (7, .val false [.f 117 [(4, 0)]]), (9, .val false [slE g l 0 l.length g.c]), (10, .val false [.f 117 [(4, 0)]]), (11, .val false [.f 117 [(4, 0)]]), (12, .val false [.v (.bool false)]), (13, .val false [.f 117 [(4, 0)]])]⟩
def inK (f : Nat → A) (v n : Nat) (c : SV A) (k : Nat) : St A :=
  ⟨slots 0 28 [(0, .val false [.y 5]), (1, .val false [.p 4 0]), (2, .val false [.p 6 0]), (3, .val false [slE g l (offK k) (lenK l.length k) (lenK g.c k)])], memK g l most f v n c ++ [some ⟨[.y 5], 175, false⟩], 0, [], [none]⟩
def leftK (f : Nat → A) (v n : Nat) (c : SV A) : St A :=
  ⟨slots 0 28 [(0, .val false [.y 5]), (1, .val false [.p 4 0]), (2, .val false [.p 6 0])], memK g l most f v n c ++ [some ⟨[.y 5], 175, false⟩], 0, [], [some (.exit 0)]⟩
noncomputable def yfK (old : Addr → Option Value) (b : Bool) : YF A := pushY (exec (cfg Tryd.prog [] (says [(22, b)]) old) 4 (ysK g l most).assign) (exec (cfg Tryd.prog [] (says [(22, b)]) old) 4 (ysK g l most).body) (ysK g l most) noYield
theorem yfK_ok (old : Addr → Option Value) (b : Bool) : YFOK Tryd.prog old [ysK g l most] (yfK g l most old b) :=
  YFOK.push (cfgOK0 (TblOK.nil _) (ITblOK.nil _) (says [(22, b)]) old noLoop) 4 (ysK g l most) (loopsOK_none _ _ _ _ _ _ _ _) (loopsOK_none _ _ _ _ _ _ _ _)
variable {old : Addr → Option Value} {k : Cfg A} (e1 : k.P = Tryd.prog) (e2 : k.gl = (fun _ => none)) (e3 : k.old = old) (e4 : k.ys = [ysK g l most])
include e1 e2 e3 e4
theorem inK_one (q : Nat) (hm : decide ((q : Int) + 1 ≥ most) = false) (hw : WrapI ((q : Int) + 1)) (hb : Sh.Bears (nG q + 64) 1) (hl : 64 ≤ lenK l.length q) (hc : 64 ≤ lenK g.c q) (hq : Reads old g.a (byteAt (B := FB) l) (offK q) 64) :
    Round k (loopNo Tryd.f117 2) (inK g l most (bG l q) q (nG q) (cntS q) q) .normal (inK g l most (bG l (q + 1)) (q + 1) (nG (q + 1)) (cntS (q + 1)) (q + 1)) :=
  Round.of (TblOK.nil _) (ITblOK.nil _) (says [(8, true)]) noLoop (yfK_ok g l most old false) 6
    [(0 : Int) ≤ 64 ∧ (64 : Int) ≤ ((lenK l.length q : Nat) : Int), decide ((q : Int) + 1 ≥ most) = false, WrapI ((q : Int) + 1), q = q ∧ timesN (nG q) (0 + 1) = nG q ∧ Sh.Bears (nG q + 64) 1, Reads old g.a (byteAt (B := FB) l) (offK q) 64, 63 + 1 ≤ Int.toNat 64 - 0, (0 : Int) ≤ 64 ∧ (64 : Int) ≤ ((lenK g.c q : Nat) : Int), decide (((lenK l.length q : Nat) : Int) ≥ 64) = true]
    loopsFor_none (by kernel_rfl) ⟨⟨by decide, by omega⟩, hm, hw, ⟨rfl, by rw [timesN_eq, Nat.zero_add, Nat.mul_one], hb⟩, hq, by decide, ⟨by decide, by omega⟩, decide_eq_true (by omega), trivial⟩ (by kernel_rfl) (by kernel_rfl) e1 e2 e3 e4
theorem inK_left (q : Nat) (hm : decide ((q : Int) + 1 ≥ most) = true) (hw : WrapI ((q : Int) + 1)) (hb : Sh.Bears (nG q + 64) 1) (hl : 64 ≤ lenK l.length q) (hc : 64 ≤ lenK g.c q) (hq : Reads old g.a (byteAt (B := FB) l) (offK q) 64) :
    Round k (loopNo Tryd.f117 2) (inK g l most (bG l q) q (nG q) (cntS q) q) .ret (leftK g l most (bG l (q + 1)) (q + 1) (nG (q + 1)) (cntS (q + 1))) :=
  Round.of (TblOK.nil _) (ITblOK.nil _) (says [(8, true)]) noLoop (yfK_ok g l most old true) 6
    [decide ((q : Int) + 1 ≥ most) = true, WrapI ((q : Int) + 1), q = q ∧ timesN (nG q) (0 + 1) = nG q ∧ Sh.Bears (nG q + 64) 1, Reads old g.a (byteAt (B := FB) l) (offK q) 64, 63 + 1 ≤ Int.toNat 64 - 0, (0 : Int) ≤ 64 ∧ (64 : Int) ≤ ((lenK g.c q : Nat) : Int), decide (((lenK l.length q : Nat) : Int) ≥ 64) = true]
    loopsFor_none (by kernel_rfl) ⟨hm, hw, ⟨rfl, by rw [timesN_eq, Nat.zero_add, Nat.mul_one], hb⟩, hq, by decide, ⟨by decide, by omega⟩, decide_eq_true (by omega), trivial⟩ (by kernel_rfl) (by kernel_rfl) e1 e2 e3 e4
theorem inK_end (q : Nat) (hl : lenK l.length q < 64) :
    Round k (loopNo Tryd.f117 2) (inK g l most (bG l q) q (nG q) (cntS q) q) (.exit 0) (inK g l most (bG l q) q (nG q) (cntS q) q) :=
  Round.of (TblOK.nil _) (ITblOK.nil _) (says [(8, false)]) noLoop (yfK_ok g l most old true) 6 [decide (((lenK l.length q : Nat) : Int) ≥ 64) = false]
    loopsFor_none (by kernel_rfl) ⟨decide_eq_false (by omega), trivial⟩ (by kernel_rfl) (by kernel_rfl) e1 e2 e3 e4
end
end Go.Proofs.YtaloefkkllebeaaDoor
