/- SHA-256: a block's words. -/
import Derived.Test.YtaloefkkllebeaaDoorSa1
set_option linter.unusedVariables false
set_option linter.unusedSimpArgs false
set_option linter.unusedSectionVars false
namespace Go.Sh
/-! Words of 32 bits, as they are reckoned. -/
def u32 (z : Int) : UInt32 := UInt32.ofNat (z % 4294967296).toNat
def b32 (x : UInt32) : BitVec IntKind.u32.bits := BitVec.ofInt IntKind.u32.bits (x.toNat : Int)
def add3 (x y : UInt32) : UInt32 := u32 ((x.toNat : Int) + (y.toNat : Int))
def xor3 (x y : UInt32) : UInt32 := u32 ((b32 x ^^^ b32 y).toNat : Int)
def or3 (x y : UInt32) : UInt32 := u32 ((b32 x ||| b32 y).toNat : Int)
def and3 (x y : UInt32) : UInt32 := u32 ((b32 x &&& b32 y).toNat : Int)
def not3 (x : UInt32) : UInt32 := u32 ((BitVec.ofInt IntKind.u32.bits (if IntKind.u32.signed then -1 else IntKind.u32.max) ^^^ b32 x).toNat : Int)
def shr3 (x : UInt32) (n : Nat) : UInt32 := UInt32.ofNat (x.toNat / 2 ^ min n IntKind.u32.bits)
def shl3 (x : UInt32) (n : Nat) : UInt32 := u32 ((x.toNat : Int) * 2 ^ min n IntKind.u32.bits)
def byte3 (x : UInt8) : UInt32 := u32 (x.toNat : Int)
/-- Turned to the right. -/
def rot3 (x : UInt32) (n : Nat) : UInt32 := or3 (shl3 x (32 - n)) (shr3 x n)
def sig0 (x : UInt32) : UInt32 := xor3 (xor3 (rot3 x 7) (rot3 x 18)) (shr3 x 3)
def sig1 (x : UInt32) : UInt32 := xor3 (xor3 (rot3 x 17) (rot3 x 19)) (shr3 x 10)
/-- One of the later words. -/
def wStep (f : Nat → UInt32) (k : Nat) : Nat → UInt32 :=
  upd f (k : Int).toNat (add3 (add3 (add3 (f ((k : Int) - 16).toNat) (sig0 (f ((k : Int) - 15).toNat))) (f ((k : Int) - 7).toNat)) (sig1 (f ((k : Int) - 2).toNat)))
def wIt (f : Nat → UInt32) : Nat → (Nat → UInt32)
  | 0 => f
  | i + 1 => wStep (wIt f i) (16 + i)
/-- One of the first words. -/
def wHead (g : Nat → UInt8) (k : Nat) : UInt32 :=
  or3 (or3 (or3 (shl3 (byte3 (g (4 * (k : Int)).toNat)) 24) (shl3 (byte3 (g (4 * (k : Int) + 1).toNat)) 16)) (shl3 (byte3 (g (4 * (k : Int) + 2).toNat)) 8)) (byte3 (g (4 * (k : Int) + 3).toNat))
def z64 : Nat → UInt32 := pickN 0 (List.replicate 64 (UInt32.ofNat 0))
def wFirst (g : Nat → UInt8) : Nat → (Nat → UInt32)
  | 0 => z64
  | k + 1 => upd (wFirst g k) (k : Int).toNat (wHead g k)
/-- A block's words. -/
def wordsF (g : Nat → UInt8) : Nat → UInt32 := wIt (wFirst g 16) 48
/-- A number of 64 bits in its bounds; an index in its. -/
def WI (z : Int) : Prop := IntKind.i64.wrap z = z
theorem wI {z : Int} (h1 : -9223372036854775808 ≤ z) (h2 : z ≤ 9223372036854775807) : WI z := by
  unfold WI IntKind.wrap
  simp only [IntKind.bits, IntKind.signed]
  simp
  omega
def IX (z : Int) (n : Nat) : Prop := 0 ≤ z ∧ z < n
end Go.Sh
namespace Go.Proofs.YtaloefkkllebeaaDoor
open Go Go.Sh
def zer64 : List (SV A) := (List.replicate 64 (.v (.int .u32 0)))
noncomputable def rotRow : Row A := rowIn Tryd.prog [] [] (fun _ _ => .keep) 4 119 Tryd.f119
theorem rotRow_ok : RowOK Tryd.prog rotRow := rowIn_ok (TblOK.nil _) (ITblOK.nil _) _ 4 Tryd.func119 (by kernel_rfl) (by kernel_rfl)
def wS1 (a : Addr) (g : Nat → UInt8) (f : Nat → UInt32) (k : Nat) : St A :=
  ⟨slots 0 97 [(0, .val false [.q (some a) (fun j => .u8 (g j)) 0]), (2, .val false [.p 0 0]), (3, .val false [.p 1 0]), (10, .val false [.n .i64 k])], [some ⟨zer64, 138, false⟩, some ⟨[.a (.w32 64 f)], 138, false⟩], 0, [], []⟩
def wE1 (a : Addr) (g : Nat → UInt8) (f : Nat → UInt32) : St A :=
  ⟨slots 0 97 [(0, .val false [.q (some a) (fun j => .u8 (g j)) 0]), (2, .val false [.p 0 0]), (3, .val false [.p 1 0])], [some ⟨zer64, 138, false⟩, some ⟨[.a (.w32 64 f)], 138, false⟩], 0, [], []⟩
def wS2 (a : Addr) (g : Nat → UInt8) (f : Nat → UInt32) (k : Nat) : St A :=
  ⟨slots 0 97 [(0, .val false [.q (some a) (fun j => .u8 (g j)) 0]), (2, .val false [.p 0 0]), (3, .val false [.p 1 0]), (5, .val false [.n .i64 k])], [some ⟨zer64, 138, false⟩, some ⟨[.a (.w32 64 f)], 138, false⟩], 0, [], []⟩
def ReadQ (old : Addr → Option Value) (a : Addr) (g : Nat → UInt8) (i : Nat) : Prop := Reads old (some a) (fun j => (.u8 (g j) : A)) i 1
section
variable {W : World} (a : Addr) (g : Nat → UInt8) (hr : ∀ i, i < 64 → ReadQ W.cell? a g i) {k : Cfg A} (e1 : k.P = Tryd.prog) (e2 : k.gl = (fun _ => none)) (e3 : k.old = W.cell?) (e4 : k.ys = [])
include e1 e2 e3 e4
include hr in
theorem wS1_one (f : Nat → UInt32) (i : Nat) (hi : i < 16) : Round k (loopNo Tryd.f118 3) (wS1 a g f i) .normal (wS1 a g (upd f (i : Int).toNat (wHead g i)) (i + 1)) :=
  Round.of0 (.cons rotRow_ok (.nil _)) (says [(11, true)]) 4
    [WI ((i : Int) + 1), IX (i : Int) 64, ReadQ W.cell? a g (4 * (i : Int) + 3).toNat, IX (4 * (i : Int) + 3) 64, WI (4 * (i : Int) + 3), WI (4 * (i : Int)), ReadQ W.cell? a g (4 * (i : Int) + 2).toNat, IX (4 * (i : Int) + 2) 64, WI (4 * (i : Int) + 2), WI (4 * (i : Int)),
      ReadQ W.cell? a g (4 * (i : Int) + 1).toNat, IX (4 * (i : Int) + 1) 64, WI (4 * (i : Int) + 1), WI (4 * (i : Int)), ReadQ W.cell? a g (4 * (i : Int)).toNat, IX (4 * (i : Int)) 64, WI (4 * (i : Int)), decide ((i : Int) < 16) = true]
    (by kernel_rfl)
    ⟨wI (by omega) (by omega), ⟨by omega, by omega⟩, hr _ (by omega), ⟨by omega, by omega⟩, wI (by omega) (by omega), wI (by omega) (by omega), hr _ (by omega), ⟨by omega, by omega⟩, wI (by omega) (by omega), wI (by omega) (by omega),
      hr _ (by omega), ⟨by omega, by omega⟩, wI (by omega) (by omega), wI (by omega) (by omega), hr _ (by omega), ⟨by omega, by omega⟩, wI (by omega) (by omega), decide_eq_true (by omega), trivial⟩ (by kernel_rfl) (by kernel_rfl) e1 e2 e3 e4
theorem wS1_end (f : Nat → UInt32) : Round k (loopNo Tryd.f118 3) (wS1 a g f 16) (.exit 0) (wE1 a g f) :=
  Round.of0 (.cons rotRow_ok (.nil _)) (says [(11, false)]) 4 [decide (((16 : Nat) : Int) < 16) = false] (by kernel_rfl) ⟨by decide, trivial⟩ (by kernel_rfl) (by kernel_rfl) e1 e2 e3 e4
theorem wS2_one (f : Nat → UInt32) (i : Nat) (h1 : 16 ≤ i) (hi : i < 64) : Round k (loopNo Tryd.f118 8) (wS2 a g f i) .normal (wS2 a g (wStep f i) (i + 1)) :=
  Round.of0 (.cons rotRow_ok (.nil _)) (says [(54, true)]) 4
    [WI ((i : Int) + 1), IX (i : Int) 64, IX ((i : Int) - 7) 64, WI ((i : Int) - 7), IX ((i : Int) - 16) 64, WI ((i : Int) - 16), IX ((i : Int) - 2) 64, WI ((i : Int) - 2), IX ((i : Int) - 15) 64, WI ((i : Int) - 15), decide ((i : Int) < 64) = true]
    (by kernel_rfl)
    ⟨wI (by omega) (by omega), ⟨by omega, by omega⟩, ⟨by omega, by omega⟩, wI (by omega) (by omega), ⟨by omega, by omega⟩, wI (by omega) (by omega), ⟨by omega, by omega⟩, wI (by omega) (by omega), ⟨by omega, by omega⟩, wI (by omega) (by omega), decide_eq_true (by omega), trivial⟩
    (by kernel_rfl) (by kernel_rfl) e1 e2 e3 e4
theorem wS2_end (f : Nat → UInt32) : Round k (loopNo Tryd.f118 8) (wS2 a g f 64) (.exit 2) (wE1 a g f) :=
  Round.of0 (.cons rotRow_ok (.nil _)) (says [(54, false)]) 4 [decide (((64 : Nat) : Int) < 64) = false] (by kernel_rfl) ⟨by decide, trivial⟩ (by kernel_rfl) (by kernel_rfl) e1 e2 e3 e4
end
theorem wLoop1 (W : World) (a : Addr) (g : Nat → UInt8) (hr : ∀ i, i < 64 → ReadQ W.cell? a g i) : SoundFor Tryd.prog W.cell? [] (.loop (loopNo Tryd.f118 3)) (wS1 a g z64 0) (.exit 0) (wE1 a g (wFirst g 16)) :=
  fun c q1 q2 q3 q4 => loopAt (c := c) (inv := fun i => wS1 a g (wFirst g i) i) (N := 16) (by simp) (fun i hi => wS1_one a g hr q1 q2 q3 q4 (wFirst g i) i hi) (wS1_end a g q1 q2 q3 q4 (wFirst g 16))
theorem wLoop2 (W : World) (a : Addr) (g : Nat → UInt8) (f : Nat → UInt32) : SoundFor Tryd.prog W.cell? [] (.loop (loopNo Tryd.f118 8)) (wS2 a g f 16) (.exit 2) (wE1 a g (wIt f 48)) :=
  fun c q1 q2 q3 q4 => loopAt (c := c) (inv := fun i => wS2 a g (wIt f i) (16 + i)) (N := 48) (by simp) (fun i hi => wS2_one a g (W := W) q1 q2 q3 q4 (wIt f i) (16 + i) (by omega) (by omega)) (wS2_end a g (W := W) q1 q2 q3 q4 (wIt f 48))
theorem words_ok : Computes A Tryd.prog 118 (fun x : Ptr (R8 64) × Unit => (⟨wordsF x.1.x.f⟩ : R32 64)) := by
  refine computes_of_runW (.cons rotRow_ok (.nil _)) (ITblOK.nil _) Tryd.func118 (by kernel_rfl) (by kernel_rfl) 4 ?_
  rintro ⟨a, _⟩ ⟨⟨⟨g⟩⟩, ⟨⟩⟩ W ⟨hg, _⟩
  have hr : ∀ i, i < 64 → ReadQ W.cell? a g i := by
    intro i hi b hb j hj
    obtain rfl := Option.some.inj hb
    obtain ⟨v, k1, k2⟩ := hg (i + j) (show i + j < 64 by omega)
    exact ⟨v, k1, k2⟩
  refine ⟨fun _ _ => .keep, lps [(3, wS1 a g z64 0, .exit 0, wE1 a g (wFirst g 16)), (8, wS2 a g (wFirst g 16) 16, .exit 2, wE1 a g (wIt (wFirst g 16) 48))], ⟨wordsF g⟩, [ToldIs (wS2 a g (wFirst g 16) 16), ToldIs (wS1 a g z64 0)], by kernel_rfl, ⟨toldIs _, toldIs _, trivial⟩, rfl, fun body hb => ?_⟩
  obtain rfl := Option.some.inj hb
  exact LoopsFor.cons (by kernel_rfl) (wLoop1 W a g hr) (LoopsFor.cons (by kernel_rfl) (wLoop2 W a g (wFirst g 16)) LoopsFor.nil)
end Go.Proofs.YtaloefkkllebeaaDoor
