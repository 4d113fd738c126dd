/- Branches: the reference's contracts; a branch's steps. -/
import Derived.Test.YtaloefkkllebeaaDoorSh2
set_option linter.unusedVariables false
set_option linter.unusedSimpArgs false
set_option linter.unusedSectionVars false
namespace Go.Sh
def verQ (Pr : R8 32 → R8 32 → R8 32) (f r : Nat → UInt8) (l : List (R8 32)) (ix : UInt64) : Bool :=
  match eqB (foldV Pr l ix f l.length) r 0 32 with
  | false => false
  | true => match decide ((l.length : Int) ≥ 64) with | true => true | false => offQ ix l.length
def extI (mx : Bool) (a b : Int) : Int := if (if mx then b > a else b < a) then b else a
def mmI (n : Int) : Int := extI false (extI true n 0) 64
theorem mmI_eq (n : Int) : mmI n = min (max n 0) 64 := by
  unfold mmI extI
  simp only [Bool.false_eq_true, if_true, if_false]
  split <;> split <;> omega
/-- A number of 64 bits. -/
def cvU (n : Int) : UInt64 := UInt64.ofNat (n % 18446744073709551616).toNat
def shW (x : UInt64) (n : Int) : UInt64 := UInt64.ofNat (x.toNat / 2 ^ min ((cvU n).toNat : Int).toNat IntKind.u64.bits)
def bitW (x : UInt64) (i : Nat) : Bool :=
  (((UInt64.ofNat (((BitVec.ofInt IntKind.u64.bits ((shW x (i : Int)).toNat : Int) &&& BitVec.ofInt IntKind.u64.bits 1).toNat : Int) % 18446744073709551616).toNat).toNat : Int) == 1)
theorem cvU_nat {i : Nat} (h : i < 18446744073709551616) : ((cvU (i : Int)).toNat : Int).toNat = i := by
  unfold cvU
  have : ((i : Int) % 18446744073709551616).toNat = i := by omega
  rw [this, UInt64.toNat_ofNat_of_lt' (show i < 18446744073709551616 from h)]
  rfl
theorem bitW_eq (x : UInt64) {i : Nat} (h : i < 18446744073709551616) : bitW x i = bitQ x i := by
  unfold bitW bitQ shW
  rw [cvU_nat h]
end Go.Sh
namespace Go.Proofs.YtaloefkkllebeaaDoor
open Go Go.Sh
section
variable {Pr : R8 32 → R8 32 → R8 32} (ht : TblOK Tryd.prog (tblMk Pr))
include ht
theorem fold_of : Computes A Tryd.prog 60 (fun x : Hs Mk × R8 32 × Rt 32 × UInt64 × Unit => (⟨foldV Pr x.2.2.1.l x.2.2.2.1 x.2.1.f x.2.2.1.l.length⟩ : R8 32)) := by
  refine computes_of_runW ht (ITblOK.nil _) Tryd.func60 (by kernel_rfl) (by kernel_rfl) 6 ?_
  rintro ⟨a, _, g, _⟩ ⟨⟨m⟩, ⟨f⟩, ⟨l⟩, ix, ⟨⟩⟩ W ⟨ha, _, ⟨hg, hn⟩, _⟩
  have hg : HasRows W l g := hg
  have hn : l.length < 1048576 := hn
  have hT : HasTab W a := by
    intro i n hin b hb j hj
    obtain rfl := Option.some.inj hb
    exact ha (i + j) (show i + j < 72 by omega)
  have hs : SoundFor Tryd.prog W.cell? [] (.loop (loopNo Tryd.f60 2)) (flS a f f g l ix 0) (.exit 0) (flS a f (foldV Pr l ix f l.length) g l ix l.length) := fun c q1 q2 q3 q4 =>
    loopAt (c := c) (inv := fun i => flS a f (foldV Pr l ix f i) g l ix i) (N := l.length) (by simp) (fun i hi => flS_one ht a hT f g hg hn ix q1 q2 q3 q4 _ i hi) (flS_end ht a hT f g hg hn ix q1 q2 q3 q4 _)
  revert hs
  show SoundFor _ _ _ _ _ _ (flS a f (foldV Pr l ix f l.length) g l ix l.length) → _
  generalize foldV Pr l ix f l.length = w
  intro hs
  refine ⟨fun _ _ => .keep, lps [(2, flS a f f g l ix 0, .exit 0, flS a f w g l ix l.length)], ⟨w⟩, [ToldIs (flS a f f g l ix 0)], by kernel_rfl, ⟨toldIs _, trivial⟩, rfl, fun body hb => ?_⟩
  obtain rfl := Option.some.inj hb
  exact LoopsFor.cons (by kernel_rfl) hs LoopsFor.nil
theorem refVerify_of : Computes A Tryd.prog 61 (fun x : Hs Mk × R8 32 × Rt 32 × UInt64 × R8 32 × Unit => verQ Pr x.2.1.f x.2.2.2.2.1.f x.2.2.1.l x.2.2.2.1) := by
  refine computes_of_runW ht (ITblOK.nil _) Tryd.func61 (by kernel_rfl) (by kernel_rfl) 6 ?_
  rintro ⟨a, _, g, _⟩ ⟨⟨m⟩, ⟨f⟩, ⟨l⟩, ix, ⟨r⟩, ⟨⟩⟩ W ⟨ha, _, ⟨hg, hn⟩, _⟩
  have hg : HasRows W l g := hg
  have hn : l.length < 1048576 := hn
  have hT : HasTab W a := by
    intro i n hin b hb j hj
    obtain rfl := Option.some.inj hb
    exact ha (i + j) (show i + j < 72 by omega)
  have hs : SoundFor Tryd.prog W.cell? [] (.loop (loopNo Tryd.f61 3)) (vfS a f r f g l ix 0) (.exit 0) (vfS a f r (foldV Pr l ix f l.length) g l ix l.length) := fun c q1 q2 q3 q4 =>
    loopAt (c := c) (inv := fun i => vfS a f r (foldV Pr l ix f i) g l ix i) (N := l.length) (by simp) (fun i hi => vfS_one ht a hT f r g hg hn ix q1 q2 q3 q4 _ i hi) (vfS_end ht a hT f r g hg hn ix q1 q2 q3 q4 _)
  show ∃ orc lp y vc, _ ∧ _ ∧ y = verQ Pr f r l ix ∧ _
  unfold verQ
  revert hs
  generalize foldV Pr l ix f l.length = w
  intro hs
  have hb : ∀ body, Tryd.f61.body = some body → LoopsFor Tryd.prog W.cell? [] (lps [(3, vfS a f r f g l ix 0, .exit 0, vfS a f r w g l ix l.length)]) body := fun body hb => by
    obtain rfl := Option.some.inj hb
    exact LoopsFor.cons (by kernel_rfl) hs LoopsFor.nil
  cases he : eqB w r 0 32 with
  | false => exact ⟨says [(47, false)], lps [(3, vfS a f r f g l ix 0, .exit 0, vfS a f r w g l ix l.length)], false, [eqB w r 0 32 = false, ToldIs (vfS a f r f g l ix 0)], by kernel_rfl, ⟨he, toldIs _, trivial⟩, rfl, hb⟩
  | true =>
    cases hl : decide ((l.length : Int) ≥ 64) with
    | true => exact ⟨says [(47, true), (51, true)], lps [(3, vfS a f r f g l ix 0, .exit 0, vfS a f r w g l ix l.length)], true, [decide ((l.length : Int) ≥ 64) = true, eqB w r 0 32 = true, ToldIs (vfS a f r f g l ix 0)], by kernel_rfl, ⟨hl, he, toldIs _, trivial⟩, rfl, hb⟩
    | false => exact ⟨says [(47, true), (51, false)], lps [(3, vfS a f r f g l ix 0, .exit 0, vfS a f r w g l ix l.length)], offQ ix l.length, [(0 : Int) ≤ (l.length : Int), decide ((l.length : Int) ≥ 64) = false, eqB w r 0 32 = true, ToldIs (vfS a f r f g l ix 0)], by kernel_rfl, ⟨by omega, hl, he, toldIs _, trivial⟩, rfl, hb⟩
end
/-! ### Steps, walked by Verify -/
noncomputable def tblSp' (Pr : R8 32 → R8 32 → R8 32) : List (Row A) := [rowOf A 33 (fun x : GA (R8 32 × R8 32 × Unit) => Pr x.x.1 x.x.2.1)]
noncomputable def stepsR : Row A := rowIn Tryd.prog [] [] (fun _ _ => .keep) 4 103 Tryd.f103
theorem stepsR_ok : RowOK Tryd.prog stepsR := rowIn_ok (TblOK.nil _) (ITblOK.nil _) _ 4 Tryd.func103 (by kernel_rfl) (by kernel_rfl)
section
variable (f r : Nat → UInt8) (g : Spot) (l : List (R8 32)) (ix : UInt64)
def memV (v : Nat → UInt8) : Mem A :=
  [some ⟨[.a (.w8 32 f)], 25, false⟩, some ⟨[rsE g l], 59, false⟩, some ⟨[.a (.w8 32 r)], 25, false⟩, some ⟨[.a (.w8 32 v)], 25, false⟩, some ⟨[.a (.u64 ix)], 40, false⟩, some ⟨[.n .i64 (l.length : Int)], 3, false⟩, none]
/-- The slots of the test ahead. -/
def midV (sh : Bool) : List (Nat × TV A) :=
  match sh with
  | false => [(16, .val false [.v (.bool false)]), (17, .val false [.v (.bool false)])]
  | true => [(16, .val false [.v (.bool true)]), (17, .val false [.v (.bool true)]), (18, .val false [.a (.u64 ix)]), (19, .val false [rsE g l]), (20, .val false [.n .i64 (l.length : Int)]), (21, .val false [.a (.u64 (cvU (l.length : Int)))]), (22, .val false [.a (.u64 (shW ix (l.length : Int)))]), (23, .val false [.v (.bool false)])]
noncomputable def ysV (sh : Bool) : Ys A :=
  ⟨6, [30, 31], rangeA Tryd.f59 5, rangeNo Tryd.f59 5,
    slotsU 0 62 ([(0, .val true [.a (.w8 32 f)]), (1, .val false [rsE g l]), (2, .val false [.a (.u64 ix)]), (3, .val true [.a (.w8 32 r)]), (4, .val false [.p 0 0]), (5, .val false [.p 1 0]), (7, .val false [.p 2 0]), (8, .val false [.v (.bool false)]), (9, .val false [.p 3 0]), (14, .val false [rsE g l]), (15, .val false [.n .i64 (l.length : Int)])] ++ (midV g l ix sh ++
      [(24, .val false [.v (.bool false)]), (25, .val true [.a (.w8 32 f)]), (26, .val false [.a (.u64 ix)]), (27, .val false [rsE g l]), (28, .val false [.n .i64 (l.length : Int)]), (29, .val false [.f 124 [(5, 0), (4, 0)]])]))⟩
def inV (v : Nat → UInt8) (i : Nat) : St A :=
  ⟨slots 0 22 [(0, .val false [.y 6]), (1, .val false [.p 5 0]), (2, .val false [.p 4 0]), (7, .val false [.n .i64 (mmI (l.length : Int))]), (8, .val false [.n .i64 (i : Int)])], memV f r g l ix v, 0, [], [none]⟩
noncomputable def yfV (sh : Bool) (Pr : R8 32 → R8 32 → R8 32) (old : Addr → Option Value) (b : Bool) : YF A := pushY (exec (cfg Tryd.prog (tblSp' Pr) (says [(32, b)]) old) 4 (ysV f r g l ix sh).assign) (exec (cfg Tryd.prog (tblSp' Pr) (says [(32, b)]) old) 4 (ysV f r g l ix sh).body) (ysV f r g l ix sh) noYield
end
end Go.Proofs.YtaloefkkllebeaaDoor
