/- Branches, by the reference: where they come to. -/
import Derived.Test.YtaloefkkllebeaaDoorSh1
set_option linter.unusedVariables false
set_option linter.unusedSimpArgs false
set_option linter.unusedSectionVars false
namespace Go.Sh
/-- A bit of a number. -/
def bitQ (x : UInt64) (i : Nat) : Bool :=
  (((UInt64.ofNat (((BitVec.ofInt IntKind.u64.bits ((UInt64.ofNat (x.toNat / 2 ^ min i IntKind.u64.bits)).toNat : Int) &&& BitVec.ofInt IntKind.u64.bits 1).toNat : Int) % 18446744073709551616).toNat).toNat : Int) == 1)
/-- A number without its lowest bits is nought. -/
def offQ (x : UInt64) (i : Nat) : Bool := (((UInt64.ofNat (x.toNat / 2 ^ min i IntKind.u64.bits)).toNat : Int) == 0)
section
variable (Pr : R8 32 → R8 32 → R8 32)
def vStep (b : Bool) (e v : Nat → UInt8) : Nat → UInt8 := match b with | true => (Pr ⟨e⟩ ⟨v⟩).f | false => (Pr ⟨v⟩ ⟨e⟩).f
def sideB (x : UInt64) (i : Nat) : Bool := match decide ((i : Int) < 64) with | true => bitQ x i | false => false
def foldV (l : List (R8 32)) (x : UInt64) (f : Nat → UInt8) : Nat → (Nat → UInt8)
  | 0 => f
  | i + 1 => vStep Pr (sideB x i) (elL l i) (foldV l x f i)
end
end Go.Sh
namespace Go.Proofs.YtaloefkkllebeaaDoor
open Go Go.Sh
noncomputable def tblMk (Pr : R8 32 → R8 32 → R8 32) : List (Row A) := [rowOf A 34 (fun x : Ptr Mk × R8 32 × R8 32 × Unit => Pr x.2.1 x.2.2.1)]
def hsT (a : Addr) : SV A := .q (some a) (fun j => .u32 (tabA j)) 0
def rsE (g : Spot) (l : List (R8 32)) : SV A := .e g.a (rsAt l) 0 l.length g.c
def vfS (a : Addr) (f r v : Nat → UInt8) (g : Spot) (l : List (R8 32)) (ix : UInt64) (i : Nat) : St A :=
  ⟨slots 0 60 [(0, .val true [hsT a]), (1, .val true [.a (.w8 32 f)]), (2, .val false [rsE g l]), (3, .val false [.a (.u64 ix)]), (4, .val true [.a (.w8 32 r)]), (5, .val false [.p 0 0]), (6, .val false [.p 1 0]), (9, .val false [.p 2 0]), (10, .val false [.v (.bool false)]), (11, .val false [.p 3 0]), (12, .val false [.n .i64 (i : Int)])],
    [some ⟨[hsT a], 55, false⟩, some ⟨[.a (.w8 32 f)], 25, false⟩, some ⟨[.a (.w8 32 r)], 25, false⟩, some ⟨[.a (.w8 32 v)], 25, false⟩], 0, [], []⟩
def flS (a : Addr) (f v : Nat → UInt8) (g : Spot) (l : List (R8 32)) (ix : UInt64) (i : Nat) : St A :=
  ⟨slots 0 42 [(0, .val true [hsT a]), (1, .val true [.a (.w8 32 f)]), (2, .val false [rsE g l]), (3, .val false [.a (.u64 ix)]), (4, .val false [.p 0 0]), (5, .val false [.p 1 0]), (8, .val false [.p 2 0]), (9, .val false [.n .i64 (i : Int)])],
    [some ⟨[hsT a], 55, false⟩, some ⟨[.a (.w8 32 v)], 25, false⟩, some ⟨zer8 32, 25, false⟩], 0, [], []⟩
section
variable {Pr : R8 32 → R8 32 → R8 32} (ht : TblOK Tryd.prog (tblMk Pr)) {W : World} (a : Addr) (hT : HasTab W a) (f r : Nat → UInt8) (g : Spot) {l : List (R8 32)} (hg : HasRows W l g) (hl : l.length < 1048576) (ix : UInt64) {c : Cfg A} (e1 : c.P = Tryd.prog) (e2 : c.gl = (fun _ => none)) (e3 : c.old = W.cell?) (e4 : c.ys = [])
include ht hT hg hl e1 e2 e3 e4
theorem vfS_one (v : Nat → UInt8) (i : Nat) (hi : i < l.length) : Round c (loopNo Tryd.f61 3) (vfS a f r v g l ix i) .normal (vfS a f r (vStep Pr (sideB ix i) (elL l i) v) g l ix (i + 1)) := by
  have w : WrapI ((i : Int) + 1) := wI (by omega) (by omega)
  have rt : ReadT W.cell? a 0 72 := hT _ _ (by omega)
  have rd : Reads W.cell? g.a (rsAt (l := l)) (i * 32) 32 := reads_rows hg (by omega)
  have ix1 : IX (i : Int) l.length := ⟨by omega, by omega⟩
  have lt : decide ((i : Int) < (l.length : Int)) = true := decide_eq_true (by omega)
  cases h64 : decide ((i : Int) < 64) with
  | true =>
    cases hb : bitQ ix i with
    | true =>
      have e : vStep Pr (sideB ix i) (elL l i) v = (Pr ⟨elL l i⟩ ⟨v⟩).f := by unfold sideB; rw [h64]; simp only [hb, vStep]
      rw [e]
      exact Round.of0 ht (saysY []) 6 [WrapI ((i : Int) + 1), ReadT W.cell? a 0 72, TabsAre, Reads W.cell? g.a (rsAt l) (i * 32) 32, IX (i : Int) l.length, bitQ ix i = true, (0 : Int) ≤ (i : Int), decide ((i : Int) < 64) = true, decide ((i : Int) < (l.length : Int)) = true] (by kernel_rfl)
        ⟨w, rt, tabsAre, rd, ix1, hb, by omega, h64, lt, trivial⟩ (by kernel_rfl) (by kernel_rfl) e1 e2 e3 e4
    | false =>
      have e : vStep Pr (sideB ix i) (elL l i) v = (Pr ⟨v⟩ ⟨elL l i⟩).f := by unfold sideB; rw [h64]; simp only [hb, vStep]
      rw [e]
      exact Round.of0 ht (saysY [(27, false)]) 6 [WrapI ((i : Int) + 1), ReadT W.cell? a 0 72, TabsAre, Reads W.cell? g.a (rsAt l) (i * 32) 32, IX (i : Int) l.length, bitQ ix i = false, (0 : Int) ≤ (i : Int), decide ((i : Int) < 64) = true, decide ((i : Int) < (l.length : Int)) = true] (by kernel_rfl)
        ⟨w, rt, tabsAre, rd, ix1, hb, by omega, h64, lt, trivial⟩ (by kernel_rfl) (by kernel_rfl) e1 e2 e3 e4
  | false =>
    have e : vStep Pr (sideB ix i) (elL l i) v = (Pr ⟨v⟩ ⟨elL l i⟩).f := by unfold sideB; rw [h64]; rfl
    rw [e]
    exact Round.of0 ht (saysY [(21, false)]) 6 [WrapI ((i : Int) + 1), ReadT W.cell? a 0 72, TabsAre, Reads W.cell? g.a (rsAt l) (i * 32) 32, IX (i : Int) l.length, decide ((i : Int) < 64) = false, decide ((i : Int) < (l.length : Int)) = true] (by kernel_rfl)
      ⟨w, rt, tabsAre, rd, ix1, h64, lt, trivial⟩ (by kernel_rfl) (by kernel_rfl) e1 e2 e3 e4
theorem flS_one (v : Nat → UInt8) (i : Nat) (hi : i < l.length) : Round c (loopNo Tryd.f60 2) (flS a f v g l ix i) .normal (flS a f (vStep Pr (sideB ix i) (elL l i) v) g l ix (i + 1)) := by
  have w : WrapI ((i : Int) + 1) := wI (by omega) (by omega)
  have rt : ReadT W.cell? a 0 72 := hT _ _ (by omega)
  have rd : Reads W.cell? g.a (rsAt (l := l)) (i * 32) 32 := reads_rows hg (by omega)
  have ix1 : IX (i : Int) l.length := ⟨by omega, by omega⟩
  have lt : decide ((i : Int) < (l.length : Int)) = true := decide_eq_true (by omega)
  cases h64 : decide ((i : Int) < 64) with
  | true =>
    cases hb : bitQ ix i with
    | true =>
      have e : vStep Pr (sideB ix i) (elL l i) v = (Pr ⟨elL l i⟩ ⟨v⟩).f := by unfold sideB; rw [h64]; simp only [hb, vStep]
      rw [e]
      exact Round.of0 ht (saysY []) 6 [WrapI ((i : Int) + 1), ReadT W.cell? a 0 72, TabsAre, Reads W.cell? g.a (rsAt l) (i * 32) 32, IX (i : Int) l.length, bitQ ix i = true, (0 : Int) ≤ (i : Int), decide ((i : Int) < 64) = true, decide ((i : Int) < (l.length : Int)) = true] (by kernel_rfl)
        ⟨w, rt, tabsAre, rd, ix1, hb, by omega, h64, lt, trivial⟩ (by kernel_rfl) (by kernel_rfl) e1 e2 e3 e4
    | false =>
      have e : vStep Pr (sideB ix i) (elL l i) v = (Pr ⟨v⟩ ⟨elL l i⟩).f := by unfold sideB; rw [h64]; simp only [hb, vStep]
      rw [e]
      exact Round.of0 ht (saysY [(23, false)]) 6 [WrapI ((i : Int) + 1), ReadT W.cell? a 0 72, TabsAre, Reads W.cell? g.a (rsAt l) (i * 32) 32, IX (i : Int) l.length, bitQ ix i = false, (0 : Int) ≤ (i : Int), decide ((i : Int) < 64) = true, decide ((i : Int) < (l.length : Int)) = true] (by kernel_rfl)
        ⟨w, rt, tabsAre, rd, ix1, hb, by omega, h64, lt, trivial⟩ (by kernel_rfl) (by kernel_rfl) e1 e2 e3 e4
  | false =>
    have e : vStep Pr (sideB ix i) (elL l i) v = (Pr ⟨v⟩ ⟨elL l i⟩).f := by unfold sideB; rw [h64]; rfl
    rw [e]
    exact Round.of0 ht (saysY [(17, false)]) 6 [WrapI ((i : Int) + 1), ReadT W.cell? a 0 72, TabsAre, Reads W.cell? g.a (rsAt l) (i * 32) 32, IX (i : Int) l.length, decide ((i : Int) < 64) = false, decide ((i : Int) < (l.length : Int)) = true] (by kernel_rfl)
      ⟨w, rt, tabsAre, rd, ix1, h64, lt, trivial⟩ (by kernel_rfl) (by kernel_rfl) e1 e2 e3 e4
theorem vfS_end (v : Nat → UInt8) : Round c (loopNo Tryd.f61 3) (vfS a f r v g l ix l.length) (.exit 0) (vfS a f r v g l ix l.length) :=
  Round.of0 ht (saysY [(17, false)]) 6 [decide ((l.length : Int) < (l.length : Int)) = false] (by kernel_rfl) ⟨decide_eq_false (by omega), trivial⟩ (by kernel_rfl) (by kernel_rfl) e1 e2 e3 e4
theorem flS_end (v : Nat → UInt8) : Round c (loopNo Tryd.f60 2) (flS a f v g l ix l.length) (.exit 0) (flS a f v g l ix l.length) :=
  Round.of0 ht (saysY [(13, false)]) 6 [decide ((l.length : Int) < (l.length : Int)) = false] (by kernel_rfl) ⟨decide_eq_false (by omega), trivial⟩ (by kernel_rfl) (by kernel_rfl) e1 e2 e3 e4
end
end Go.Proofs.YtaloefkkllebeaaDoor
