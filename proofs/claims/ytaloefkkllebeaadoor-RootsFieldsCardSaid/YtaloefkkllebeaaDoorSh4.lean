/- Branches: Verify. -/
import Derived.Test.YtaloefkkllebeaaDoorSh3
set_option linter.unusedVariables false
set_option linter.unusedSimpArgs false
set_option linter.unusedSectionVars false
namespace Go.Sh
def moreV (l : List (R8 32)) : Nat := (extI false (l.length : Int) 64).toNat
theorem moreV_eq (l : List (R8 32)) : moreV l = min l.length 64 := by
  unfold moreV extI
  simp only [Bool.false_eq_true, if_false]
  split <;> omega
/-- A row further on. -/
def elM (l : List (R8 32)) (i : Nat) : Nat → UInt8 := elR (rsB l) (i * 32 + moreV l * 32)
theorem elM_eq (l : List (R8 32)) (i : Nat) : elM l i = elL l (moreV l + i) := by
  unfold elM elL
  rw [Nat.add_mul, Nat.add_comm]
/-- Is a number beyond a branch? -/
def beyQ (l : List (R8 32)) (ix : UInt64) : Bool := match decide ((l.length : Int) < 64) with | true => (((shW ix (l.length : Int)).toNat : Int) != 0) | false => false
def merQ (Pr : R8 32 → R8 32 → R8 32) (f r : Nat → UInt8) (l : List (R8 32)) (ix : UInt64) : Bool :=
  match beyQ l ix with
  | true => false
  | false => eqB (foldV Pr l ix f l.length) r 0 32
theorem merQ_eq (Pr : R8 32 → R8 32 → R8 32) (f r : Nat → UInt8) (l : List (R8 32)) (ix : UInt64) (hl : l.length < 1048576) : merQ Pr f r l ix = verQ Pr f r l ix := by
  unfold merQ verQ beyQ
  have hs : shW ix (l.length : Int) = UInt64.ofNat (ix.toNat / 2 ^ min l.length IntKind.u64.bits) := by unfold shW; rw [cvU_nat (by omega)]
  by_cases h : (l.length : Int) < 64
  · have h' : ¬ (l.length : Int) ≥ 64 := by omega
    rw [decide_eq_true h, decide_eq_false h', hs]
    unfold offQ
    generalize (UInt64.ofNat (ix.toNat / 2 ^ min l.length IntKind.u64.bits)).toNat = n
    cases hn : ((n : Int) == 0) <;> simp [bne, hn] <;> cases eqB (foldV Pr l ix f l.length) r 0 32 <;> rfl
  · have h' : (l.length : Int) ≥ 64 := by omega
    rw [decide_eq_false h, decide_eq_true h']
    cases eqB (foldV Pr l ix f l.length) r 0 32 <;> rfl
theorem sideB_hi (ix : UInt64) (i : Nat) (h : 64 ≤ i) : sideB ix i = false := by
  unfold sideB
  rw [decide_eq_false (by omega)]
theorem sideB_lo (ix : UInt64) (i : Nat) (h : i < 64) : sideB ix i = bitW ix i := by
  unfold sideB
  rw [decide_eq_true (by omega), bitW_eq ix (by omega)]
end Go.Sh
namespace Go.Proofs.YtaloefkkllebeaaDoor
open Go Go.Sh
section
variable {Pr : R8 32 → R8 32 → R8 32} (ht : TblOK Tryd.prog (tblSp' Pr)) (f r : Nat → UInt8) (g : Spot) (l : List (R8 32)) (ix : UInt64)
include ht in
theorem yfV_ok (sh : Bool) (old : Addr → Option Value) (b : Bool) : YFOK Tryd.prog old [ysV f r g l ix sh] (yfV f r g l ix sh Pr old b) :=
  YFOK.push (cfgOK0 ht (ITblOK.nil _) (says [(32, b)]) old noLoop) 4 (ysV f r g l ix sh) (loopsOK_none _ _ _ _ _ _ _ _) (loopsOK_none _ _ _ _ _ _ _ _)
variable {W : World} (hr : RoundsIn W.cell?) (hg : HasRows W l g) (hl : l.length < 1048576)
section
variable (sh : Bool) {k : Cfg A} (e1 : k.P = Tryd.prog) (e2 : k.gl = (fun _ => none)) (e3 : k.old = W.cell?) (e4 : k.ys = [ysV f r g l ix sh])
include ht hr hg hl e1 e2 e3 e4
theorem inV_one (v : Nat → UInt8) (i : Nat) (hi : i < l.length) (h64 : i < 64) : Round k (loopNo Tryd.f124 1) (inV f r g l ix v i) .normal (inV f r g l ix (vStep Pr (sideB ix i) (elL l i) v) (i + 1)) := by
  have w : WrapI ((i : Int) + 1) := wI (by omega) (by omega)
  have rd : Reads W.cell? g.a (rsAt (l := l)) (i * 32) 32 := reads_rows hg (by omega)
  have ix1 : IX (i : Int) l.length := ⟨by omega, by omega⟩
  have lt : decide ((i : Int) < mmI (l.length : Int)) = true := decide_eq_true (by rw [mmI_eq]; omega)
  rw [sideB_lo ix i h64]
  cases hb : bitW ix i with
  | true =>
    cases sh with
    | true =>
      exact Round.of (TblOK.nil _) (ITblOK.nil _) (says [(9, true)]) noLoop (yfV_ok ht f r g l ix true W.cell? true) 6
        [WrapI ((i : Int) + 1), RoundsIn W.cell?, Reads W.cell? g.a (rsAt l) (i * 32) 32, IX (i : Int) l.length, bitW ix i = true, (0 : Int) ≤ ((cvU (i : Int)).toNat : Int), decide ((i : Int) < mmI (l.length : Int)) = true]
        loopsFor_none (by kernel_rfl) ⟨w, hr, rd, ix1, hb, by omega, lt, trivial⟩ (by kernel_rfl) (by kernel_rfl) e1 e2 e3 e4
    | false =>
      exact Round.of (TblOK.nil _) (ITblOK.nil _) (says [(9, true)]) noLoop (yfV_ok ht f r g l ix false W.cell? true) 6
        [WrapI ((i : Int) + 1), RoundsIn W.cell?, Reads W.cell? g.a (rsAt l) (i * 32) 32, IX (i : Int) l.length, bitW ix i = true, (0 : Int) ≤ ((cvU (i : Int)).toNat : Int), decide ((i : Int) < mmI (l.length : Int)) = true]
        loopsFor_none (by kernel_rfl) ⟨w, hr, rd, ix1, hb, by omega, lt, trivial⟩ (by kernel_rfl) (by kernel_rfl) e1 e2 e3 e4
  | false =>
    cases sh with
    | true =>
      exact Round.of (TblOK.nil _) (ITblOK.nil _) (says [(9, true)]) noLoop (yfV_ok ht f r g l ix true W.cell? false) 6
        [WrapI ((i : Int) + 1), RoundsIn W.cell?, Reads W.cell? g.a (rsAt l) (i * 32) 32, IX (i : Int) l.length, bitW ix i = false, (0 : Int) ≤ ((cvU (i : Int)).toNat : Int), decide ((i : Int) < mmI (l.length : Int)) = true]
        loopsFor_none (by kernel_rfl) ⟨w, hr, rd, ix1, hb, by omega, lt, trivial⟩ (by kernel_rfl) (by kernel_rfl) e1 e2 e3 e4
    | false =>
      exact Round.of (TblOK.nil _) (ITblOK.nil _) (says [(9, true)]) noLoop (yfV_ok ht f r g l ix false W.cell? false) 6
        [WrapI ((i : Int) + 1), RoundsIn W.cell?, Reads W.cell? g.a (rsAt l) (i * 32) 32, IX (i : Int) l.length, bitW ix i = false, (0 : Int) ≤ ((cvU (i : Int)).toNat : Int), decide ((i : Int) < mmI (l.length : Int)) = true]
        loopsFor_none (by kernel_rfl) ⟨w, hr, rd, ix1, hb, by omega, lt, trivial⟩ (by kernel_rfl) (by kernel_rfl) e1 e2 e3 e4
theorem inV_end (v : Nat → UInt8) : Round k (loopNo Tryd.f124 1) (inV f r g l ix v (moreV l)) (.exit 0) (inV f r g l ix v (moreV l)) := by
  have hm := moreV_eq l
  generalize moreV l = q at hm ⊢
  cases sh with
  | true =>
    exact Round.of (TblOK.nil _) (ITblOK.nil _) (says [(9, false)]) noLoop (yfV_ok ht f r g l ix true W.cell? false) 6 [decide ((q : Int) < mmI (l.length : Int)) = false]
      loopsFor_none (by kernel_rfl) ⟨decide_eq_false (by rw [mmI_eq]; omega), trivial⟩ (by kernel_rfl) (by kernel_rfl) e1 e2 e3 e4
  | false =>
    exact Round.of (TblOK.nil _) (ITblOK.nil _) (says [(9, false)]) noLoop (yfV_ok ht f r g l ix false W.cell? false) 6 [decide ((q : Int) < mmI (l.length : Int)) = false]
      loopsFor_none (by kernel_rfl) ⟨decide_eq_false (by rw [mmI_eq]; omega), trivial⟩ (by kernel_rfl) (by kernel_rfl) e1 e2 e3 e4
end
def moS (v : Nat → UInt8) (i : Nat) : St A :=
  ⟨slots 0 62 [(5, .val false [.p 1 0]), (7, .val false [.p 2 0]), (9, .val false [.p 3 0]), (49, .val false [.e g.a (rsAt l) (moreV l * 32) (l.length - moreV l) (g.c - moreV l)]), (50, .val false [.n .i64 ((l.length - moreV l : Nat) : Int)]), (51, .val false [.n .i64 (i : Int)])], memV f r g l ix v, 0, [], []⟩
section
variable {k : Cfg A} (e1 : k.P = Tryd.prog) (e2 : k.gl = (fun _ => none)) (e3 : k.old = W.cell?) (e4 : k.ys = [])
include ht hr hg hl e1 e2 e3 e4
theorem moS_one (v : Nat → UInt8) (i : Nat) (hi : i < l.length - moreV l) : Round k (loopNo Tryd.f59 11) (moS f r g l ix v i) .normal (moS f r g l ix ((Pr ⟨v⟩ ⟨elM l i⟩).f) (i + 1)) := by
  have w : WrapI ((i : Int) + 1) := wI (by omega) (by omega)
  have rd : Reads W.cell? g.a (rsAt (l := l)) (i * 32 + moreV l * 32) 32 := reads_rows hg (by omega)
  exact Round.of0 ht (says [(52, true)]) 6 [WrapI ((i : Int) + 1), RoundsIn W.cell?, Reads W.cell? g.a (rsAt l) (i * 32 + moreV l * 32) 32, IX (i : Int) (l.length - moreV l), decide ((i : Int) < ((l.length - moreV l : Nat) : Int)) = true] (by kernel_rfl)
    ⟨w, hr, rd, ⟨by omega, by omega⟩, decide_eq_true (by omega), trivial⟩ (by kernel_rfl) (by kernel_rfl) e1 e2 e3 e4
theorem moS_end (v : Nat → UInt8) : Round k (loopNo Tryd.f59 11) (moS f r g l ix v (l.length - moreV l)) (.exit 2) (moS f r g l ix v (l.length - moreV l)) :=
  Round.of0 ht (says [(52, false)]) 6 [decide (((l.length - moreV l : Nat) : Int) < ((l.length - moreV l : Nat) : Int)) = false] (by kernel_rfl) ⟨decide_eq_false (by omega), trivial⟩ (by kernel_rfl) (by kernel_rfl) e1 e2 e3 e4
end
end
end Go.Proofs.YtaloefkkllebeaaDoor
