/- SHA-256: a block is added to a state; a state as bytes. -/
import Derived.Test.YtaloefkkllebeaaDoorSa2
import Derived.Test.YtaloefkkllebeaaDoorSa3
set_option linter.unusedVariables false
set_option linter.unusedSimpArgs false
set_option linter.unusedSectionVars false
namespace Go.Sh
abbrev V8 := UInt32 × UInt32 × UInt32 × UInt32 × UInt32 × UInt32 × UInt32 × UInt32
def big1 (e : UInt32) : UInt32 := xor3 (xor3 (rot3 e 6) (rot3 e 11)) (rot3 e 25)
def big0 (a : UInt32) : UInt32 := xor3 (xor3 (rot3 a 2) (rot3 a 13)) (rot3 a 22)
def tOf (kk w e f g h : UInt32) : UInt32 := add3 (add3 (add3 (add3 h (big1 e)) (xor3 (and3 e f) (and3 (not3 e) g))) kk) w
def uOf (a b c : UInt32) : UInt32 := add3 (big0 a) (xor3 (xor3 (and3 a b) (and3 a c)) (and3 b c))
/-- One round. -/
def rStep (kk w : UInt32) (v : V8) : V8 :=
  (add3 (tOf kk w v.2.2.2.2.1 v.2.2.2.2.2.1 v.2.2.2.2.2.2.1 v.2.2.2.2.2.2.2) (uOf v.1 v.2.1 v.2.2.1), v.1, v.2.1, v.2.2.1, add3 v.2.2.2.1 (tOf kk w v.2.2.2.2.1 v.2.2.2.2.2.1 v.2.2.2.2.2.2.1 v.2.2.2.2.2.2.2), v.2.2.2.2.1, v.2.2.2.2.2.1, v.2.2.2.2.2.2.1)
def rIt (w : Nat → UInt32) (v : V8) : Nat → V8
  | 0 => v
  | k + 1 => rStep (roundK k) (w k) (rIt w v k)
def v8 (f : Nat → UInt32) : V8 := (f 0, f 1, f 2, f 3, f 4, f 5, f 6, f 7)
def plus8 (f : Nat → UInt32) (v : V8) : Nat → UInt32 :=
  pickN 0 [add3 (f 0) v.1, add3 (f 1) v.2.1, add3 (f 2) v.2.2.1, add3 (f 3) v.2.2.2.1, add3 (f 4) v.2.2.2.2.1, add3 (f 5) v.2.2.2.2.2.1, add3 (f 6) v.2.2.2.2.2.2.1, add3 (f 7) v.2.2.2.2.2.2.2]
/-- A block, hashed. -/
def compF (f : Nat → UInt32) (g : Nat → UInt8) : Nat → UInt32 := plus8 f (rIt (wordsF g) (v8 f) 64)
def shrB (x : UInt32) (n : Nat) : UInt8 := UInt8.ofNat (((UInt32.ofNat (x.toNat / 2 ^ min n IntKind.u32.bits)).toNat : Int) % 256).toNat
def lowB (x : UInt32) : UInt8 := UInt8.ofNat ((x.toNat : Int) % 256).toNat
def four (x : UInt32) : List UInt8 := [shrB x 24, shrB x 16, shrB x 8, lowB x]
/-- A state's bytes. -/
def outF (f : Nat → UInt32) : Nat → UInt8 := pickN 0 (four (f 0) ++ four (f 1) ++ four (f 2) ++ four (f 3) ++ four (f 4) ++ four (f 5) ++ four (f 6) ++ four (f 7))
end Go.Sh
namespace Go.Proofs.YtaloefkkllebeaaDoor
open Go Go.Sh
noncomputable def tblAdd (F : (Nat → UInt8) → (Nat → UInt32)) : List (Row A) := [rowOf A 118 (fun x : Ptr (R8 64) × Unit => (⟨F x.1.x.f⟩ : R32 64)), rotRow]
def aMem (f w : Nat → UInt32) : Mem A := [some ⟨[.a (.w32 8 f)], 38, false⟩, some ⟨[.a (.w32 64 w)], 138, false⟩]
def aSl (a : Addr) (g : Nat → UInt8) (v : V8) : List (Nat × TV A) :=
  [(0, .val false [.p 0 0]), (1, .val false [.q (some a) (fun j => .u8 (g j)) 0]), (4, .val false [.p 1 0]), (5, .val false [.a (.u32 v.1)]), (6, .val false [.a (.u32 v.2.1)]), (7, .val false [.a (.u32 v.2.2.1)]), (8, .val false [.a (.u32 v.2.2.2.1)]),
    (9, .val false [.a (.u32 v.2.2.2.2.1)]), (10, .val false [.a (.u32 v.2.2.2.2.2.1)]), (11, .val false [.a (.u32 v.2.2.2.2.2.2.1)]), (12, .val false [.a (.u32 v.2.2.2.2.2.2.2)])]
def aS (a : Addr) (g : Nat → UInt8) (f w : Nat → UInt32) (v : V8) (k : Nat) : St A := ⟨slots 0 142 (aSl a g v ++ [(54, .val false [.n .i64 k])]), aMem f w, 0, [], []⟩
def aE (a : Addr) (g : Nat → UInt8) (f w : Nat → UInt32) (v : V8) : St A := ⟨slots 0 142 (aSl a g v), aMem f w, 0, [], []⟩
def ReadK (old : Addr → Option Value) (i : Nat) : Prop := Reads old (some ⟨0, 0, none⟩) (fun j => (.u32 (roundK j) : A)) i 1
theorem roundsIn_one {old : Addr → Option Value} (h : RoundsIn old) {i : Nat} (hi : i < 64) : ReadK old i := by
  intro b hb j hj
  obtain ⟨v, k1, k2⟩ := h b hb (i + j) (by omega)
  exact ⟨v, by simpa using k1, by simpa using k2⟩
section
variable (F : (Nat → UInt8) → (Nat → UInt32)) (ht : TblOK Tryd.prog (tblAdd F)) {old : Addr → Option Value} (hr : RoundsIn old) (a : Addr) (g : Nat → UInt8) (f w : Nat → UInt32) {k : Cfg A} (e1 : k.P = Tryd.prog) (e2 : k.gl = (fun _ => none)) (e3 : k.old = old) (e4 : k.ys = [])
include ht e1 e2 e3 e4
include hr in
theorem aS_one (v : V8) (i : Nat) (hi : i < 64) : Round k (loopNo Tryd.f86 3) (aS a g f w v i) .normal (aS a g f w (rStep (roundK i) (w i) v) (i + 1)) :=
  Round.of0 ht (says [(55, true)]) 4 [WI ((i : Int) + 1), IX (i : Int) 64, ReadK old i, IX (i : Int) 64, decide ((i : Int) < 64) = true] (by kernel_rfl)
    ⟨wI (by omega) (by omega), ⟨by omega, by omega⟩, roundsIn_one hr hi, ⟨by omega, by omega⟩, decide_eq_true (by omega), trivial⟩ (by kernel_rfl) (by kernel_rfl) e1 e2 e3 e4
theorem aS_end (v : V8) : Round k (loopNo Tryd.f86 3) (aS a g f w v 64) (.exit 0) (aE a g f w v) :=
  Round.of0 ht (says [(55, false)]) 4 [decide (((64 : Nat) : Int) < 64) = false] (by kernel_rfl) ⟨by decide, trivial⟩ (by kernel_rfl) (by kernel_rfl) e1 e2 e3 e4
end
theorem add_of (F : (Nat → UInt8) → (Nat → UInt32)) (ht : TblOK Tryd.prog (tblAdd F)) : Turns A Tryd.prog 86 38 [0] (fun (d : R32 8) (x : GA (Ptr (R8 64) × Unit)) => ((⟨plus8 d.f (rIt (F x.x.1.x.f) (v8 d.f) 64)⟩ : R32 8), ())) := by
  refine turns_of_runT Tryd.func86 (by kernel_rfl) (by kernel_rfl) 10 ?_
  rintro ⟨a, _⟩ ⟨f⟩ ⟨⟨⟨⟨g⟩⟩, ⟨⟩⟩⟩ W ⟨hr, hg, _⟩
  have hs : SoundFor Tryd.prog W.cell? [] (.loop (loopNo Tryd.f86 3)) (aS a g f (F g) (v8 f) 0) (.exit 0) (aE a g f (F g) (rIt (F g) (v8 f) 64)) :=
    fun c q1 q2 q3 q4 => loopAt (c := c) (inv := fun i => aS a g f (F g) (rIt (F g) (v8 f) i) i) (N := 64) (by simp) (fun i hi => aS_one F ht hr a g f (F g) q1 q2 q3 q4 _ i hi) (aS_end F ht a g f (F g) q1 q2 q3 q4 _)
  have hq : Reads W.cell? (some a) (fun j => (.u8 (g j) : A)) 0 64 := by
    intro b hb j hj
    obtain rfl := Option.some.inj hb
    obtain ⟨v, k1, k2⟩ := hg j hj
    exact ⟨v, by rw [Nat.zero_add]; exact k1, by rw [Nat.zero_add]; exact k2⟩
  refine ⟨_, [], ht, ITblOK.nil _, fun _ _ => .keep, lps [(3, aS a g f (F g) (v8 f) 0, .exit 0, aE a g f (F g) (rIt (F g) (v8 f) 64))], (), ⟨plus8 f (rIt (F g) (v8 f) 64)⟩,
    [ToldIs (aS a g f (F g) (v8 f) 0), Reads W.cell? (some a) (fun j => (.u8 (g j) : A)) 0 64, ∀ j, j < 64 → isU8 ((fun j => (.u8 (g j) : A)) (0 + j)) = true], by kernel_rfl, ⟨toldIs _, hq, fun _ _ => rfl, trivial⟩, rfl, fun body hb => ?_⟩
  obtain rfl := Option.some.inj hb
  exact LoopsFor.cons (by kernel_rfl) hs LoopsFor.nil
end Go.Proofs.YtaloefkkllebeaaDoor
