/- Trees: branches, level by level. -/
import Derived.Test.YtaloefkkllebeaaDoorSj7
set_option linter.unusedVariables false
set_option linter.unusedSimpArgs false
set_option linter.unusedSectionVars false
namespace Go.Sh
def xorW (x : UInt64) : UInt64 := cvU ((BitVec.ofInt IntKind.u64.bits (x.toNat : Int) ^^^ BitVec.ofInt IntKind.u64.bits 1).toNat : Int)
def andW (x y : UInt64) : UInt64 := cvU ((BitVec.ofInt IntKind.u64.bits (x.toNat : Int) &&& BitVec.ofInt IntKind.u64.bits (y.toNat : Int)).toNat : Int)
def shr1 (x : UInt64) : UInt64 := UInt64.ofNat (x.toNat / 2 ^ min 1 IntKind.u64.bits)
def onesW (D : Int) : UInt64 := cvU (1 * 2 ^ min ((cvU D).toNat : Int).toNat IntKind.u64.bits)
def mskW (D : Int) : UInt64 := cvU (((onesW D).toNat : Int) - 1)
def ixB (ix : UInt64) (D : Int) : Nat → UInt64
  | 0 => andW ix (mskW D)
  | k + 1 => shr1 (ixB ix D k)
/-- The sister of a place. -/
def sisB (B : Nat → UInt8) (n : Nat) (z : Nat → UInt8) (x : UInt64) : Nat → UInt8 :=
  match decide (((xorW x).toNat : Int) < ((cvU (n : Int)).toNat : Int)) with
  | true => elR B ((xorW x).toNat * 32)
  | false => z
/-- Levels, from any on. -/
def lvG (Pr : R8 32 → R8 32 → R8 32) (x : Lv) : Nat → Lv
  | 0 => x
  | k + 1 => ⟨upB Pr (lvG Pr x k).B (lvG Pr x k).n (zK Pr ⟨pickN 0 (List.replicate 32 (UInt8.ofNat 0))⟩ k).f (((lvG Pr x k).n + 1) / 2), ((lvG Pr x k).n + 1) / 2⟩
theorem lvG_len (Pr : R8 32 → R8 32 → R8 32) (x : Lv) : ∀ k, (lvG Pr x k).n ≤ x.n
  | 0 => Nat.le_refl _
  | k + 1 => by
    have := lvG_len Pr x k
    show ((lvG Pr x k).n + 1) / 2 ≤ _
    omega
/-- The sisters, so many. -/
def bF (Pr : R8 32 → R8 32 → R8 32) (x : Lv) (ix : UInt64) (D : Int) : Nat → Nat → A
  | 0 => fun _ => Atom.dummy
  | k + 1 => catF (bF Pr x ix D k) (timesN k (31 + 1)) (cells32 (sisB (lvG Pr x k).B (lvG Pr x k).n (zK Pr ⟨pickN 0 (List.replicate 32 (UInt8.ofNat 0))⟩ k).f (ixB ix D k))) 0
end Go.Sh
namespace Go.Proofs.YtaloefkkllebeaaDoor
open Go Go.Sh
section
variable (g : Spot) (l : List (R8 32)) (ix0 : UInt64) (d m cc : Nat) (D : Int)
def memB (ix : UInt64) (f : Nat → A) (k : Nat) (z : Nat → UInt8) : Mem A :=
  [some ⟨[.n .i64 D], 3, false⟩, some ⟨[.a (.u64 ix)], 40, false⟩, some ⟨[.mk k (c32 k)], 25, false⟩, some ⟨[.gr f 2 k k 32], 59, false⟩, some ⟨[.e g.a (rsAt l) 0 m cc], 59, false⟩, some ⟨[.n .i64 D], 3, false⟩, none, none, some ⟨[.a (.w8 32 z)], 25, false⟩]
/-- The slots of the cut. -/
def cutB (cut : Bool) : List (Nat × TV A) :=
  match cut with
  | false => []
  | true => [(25, .val false [rsE g l]), (26, .val false [.n .i64 D]), (27, .val false [.a (.u64 (cvU D))]), (28, .val false [.n .i64 (pow2W (((cvU D).toNat : Int).toNat : Int))]), (29, .val false [.e g.a (rsAt l) 0 m cc])]
noncomputable def ysB (cut : Bool) : Ys A :=
  ⟨6, [41, 42], rangeA Tryd.f56 8, rangeNo Tryd.f56 8,
    slotsU 0 66 ([(0, .val false [.e g.a (rsAt l) 0 m cc]), (1, .val false [.n .i64 (d : Int)]), (2, .val false [.a (.u64 ix0)]), (4, .val false [.p 0 0]), (5, .val false [.p 1 0]), (6, .val false [.v (.slice none 0 0)]), (7, .val false [.p 3 0]), (12, .val false [.n .i64 (d : Int)]), (13, .val false [.n .i64 (maxI (d : Int))]), (14, .val false [.n .i64 D]), (15, .val false [.n .i64 D]), (16, .val false [.v (.bool true)]), (17, .val false [.v (.bool true)]),
        (18, .val false [rsE g l]), (19, .val false [.n .i64 (l.length : Int)]), (20, .val false [.n .i64 D]), (21, .val false [.a (.u64 (cvU D))]), (22, .val false [.n .i64 (pow2W (((cvU D).toNat : Int).toNat : Int))]), (23, .val false [.v (.bool cut)]), (24, .val false [.v (.bool cut)])] ++ (cutB g l m cc D cut ++
      [(30, .val false [.n .i64 D]), (31, .val false [.v (.bool true)]), (32, .val false [.a (.u64 ix0)]), (33, .val false [.n .i64 D]), (34, .val false [.a (.u64 (cvU D))]), (35, .val false [.a (.u64 (onesW D))]), (36, .val false [.a (.u64 (mskW D))]), (37, .val false [.a (.u64 (andW ix0 (mskW D)))]), (38, .val false [.e g.a (rsAt l) 0 m cc]), (39, .val false [.n .i64 D]), (40, .val false [.f 123 [(4, 0), (5, 0)]])]))⟩
def inB (ix : UInt64) (q : Nat → A) (z : Nat → UInt8) (B : Nat → UInt8) (n k : Nat) (f : Nat → A) (j : Nat) : St A :=
  ⟨slots 0 51 [(0, .val false [.y 6]), (1, .val false [.p 4 0]), (2, .val false [.p 5 0]), (4, .val false [knS B n]), (5, .val false [.p 8 0]), (6, .val false [.gr f 12 j j 32]), (7, .val false [.n .i64 (two j : Int)]), (12, .val false [.n .i64 (D + 1)]), (13, .val false [.n .i64 (k : Int)])],
    memB g l m cc D ix q (k + 1) z ++ [none, none, none, some ⟨[.mk j (c32 j)], 25, false⟩], 0, [], [none]⟩
def outB (ix : UInt64) (q : Nat → A) (z : Nat → UInt8) (B : Nat → UInt8) (n k : Nat) : St A :=
  ⟨slots 0 51 [(0, .val false [.y 6]), (1, .val false [.p 4 0]), (2, .val false [.p 5 0]), (4, .val false [knS B n]), (5, .val false [.p 8 0]), (12, .val false [.n .i64 (D + 1)]), (13, .val false [.n .i64 (k : Int)])],
    memB g l m cc D ix q k z, 0, [], [none]⟩
def leftB (ix : UInt64) (q : Nat → A) (z : Nat → UInt8) (B : Nat → UInt8) (n k : Nat) : St A :=
  ⟨slots 0 51 [(0, .val false [.y 6]), (1, .val false [.p 4 0]), (2, .val false [.p 5 0]), (5, .val false [.p 8 0])], memB g l m cc D ix q k z, 0, [], [some (.exit 0)]⟩
section
variable (cut : Bool) {Pr : R8 32 → R8 32 → R8 32} (ht : TblOK Tryd.prog (tblSp' Pr)) {W : World} (hr : RoundsIn W.cell?)
noncomputable def yfB (cut : Bool) (old : Addr → Option Value) (s : List (Nat × Bool)) : YF A := pushY (exec (cfg Tryd.prog [] (saysY s) old) 4 (ysB g l ix0 d m cc D cut).assign) (exec (cfg Tryd.prog [] (saysY s) old) 4 (ysB g l ix0 d m cc D cut).body) (ysB g l ix0 d m cc D cut) noYield
theorem yfB_ok (old : Addr → Option Value) (s : List (Nat × Bool)) : YFOK Tryd.prog old [ysB g l ix0 d m cc D cut] (yfB g l ix0 d m cc D cut old s) :=
  YFOK.push (cfgOK0 (TblOK.nil _) (ITblOK.nil _) (saysY s) old noLoop) 4 (ysB g l ix0 d m cc D cut) (loopsOK_none _ _ _ _ _ _ _ _) (loopsOK_none _ _ _ _ _ _ _ _)
variable {c : Cfg A} (e1 : c.P = Tryd.prog) (e2 : c.gl = (fun _ => none)) (e3 : c.old = W.cell?) (e4 : c.ys = [ysB g l ix0 d m cc D cut])
include ht hr e1 e2 e3 e4
theorem inB_one (ix : UInt64) (q : Nat → A) (z B : Nat → UInt8) (n k j : Nat) (hn : n < 1048576) (hj : two j < n) :
    Round c (loopNo Tryd.f123 7) (inB g l m cc D ix q z B n k (upF Pr B n z j) j) .normal (inB g l m cc D ix q z B n k (upF Pr B n z (j + 1)) (j + 1)) := by
  have w1 : WrapI ((two j : Int) + 1) := wI (by omega) (by omega)
  have w2 : WrapI ((two j : Int) + 2) := wI (by omega) (by omega)
  have h2 := two_eq j
  have gr : j = j ∧ timesN j (31 + 1) = c32 j ∧ Sh.Bears (j + 1) 32 := ⟨rfl, by rw [timesN_eq, c32_eq]; omega, by unfold Sh.Bears maxLen; omega⟩
  have lt : decide ((two j : Int) < (n : Int)) = true := decide_eq_true (by omega)
  have i0 : IX (two j : Int) n := ⟨by omega, by omega⟩
  cases hm : decide ((two j : Int) + 1 < (n : Int)) with
  | true =>
    have e : riU B n z j = elR B ((two j + 1) * 32) := by unfold riU; rw [hm]
    have e' : upF Pr B n z (j + 1) = catF (upF Pr B n z j) (timesN j (31 + 1)) (cells32 (Pr ⟨elR B (two j * 32)⟩ ⟨elR B ((two j + 1) * 32)⟩).f) 0 := by show catF _ _ (cells32 (Pr _ ⟨riU B n z j⟩).f) 0 = _; rw [e]
    rw [e']
    generalize upF Pr B n z j = f
    have i1 : IX ((two j : Int) + 1) n := ⟨by omega, by have := of_decide_eq_true hm; omega⟩
    exact Round.of ht (ITblOK.nil _) (saysY []) noLoop (yfB_ok g l ix0 d m cc D cut W.cell? []) 6 [WrapI ((two j : Int) + 2), j = j ∧ timesN j (31 + 1) = c32 j ∧ Sh.Bears (j + 1) 32, RoundsIn W.cell?, IX (two j : Int) n, IX ((two j : Int) + 1) n, WrapI ((two j : Int) + 1), decide ((two j : Int) + 1 < (n : Int)) = true, WrapI ((two j : Int) + 1), decide ((two j : Int) < (n : Int)) = true]
      loopsFor_none (by kernel_rfl) ⟨w2, gr, hr, i0, i1, w1, hm, w1, lt, trivial⟩ (by cases cut <;> kernel_rfl) (by kernel_rfl) e1 e2 e3 e4
  | false =>
    have e : riU B n z j = z := by unfold riU; rw [hm]
    have e' : upF Pr B n z (j + 1) = catF (upF Pr B n z j) (timesN j (31 + 1)) (cells32 (Pr ⟨elR B (two j * 32)⟩ ⟨z⟩).f) 0 := by show catF _ _ (cells32 (Pr _ ⟨riU B n z j⟩).f) 0 = _; rw [e]
    rw [e']
    generalize upF Pr B n z j = f
    exact Round.of ht (ITblOK.nil _) (saysY [(31, false)]) noLoop (yfB_ok g l ix0 d m cc D cut W.cell? []) 6 [WrapI ((two j : Int) + 2), j = j ∧ timesN j (31 + 1) = c32 j ∧ Sh.Bears (j + 1) 32, RoundsIn W.cell?, IX (two j : Int) n, decide ((two j : Int) + 1 < (n : Int)) = false, WrapI ((two j : Int) + 1), decide ((two j : Int) < (n : Int)) = true]
      loopsFor_none (by kernel_rfl) ⟨w2, gr, hr, i0, hm, w1, lt, trivial⟩ (by cases cut <;> kernel_rfl) (by kernel_rfl) e1 e2 e3 e4
theorem inB_end (ix : UInt64) (q : Nat → A) (z B : Nat → UInt8) (n k N : Nat) (f : Nat → A) (hj : n ≤ two N) :
    Round c (loopNo Tryd.f123 7) (inB g l m cc D ix q z B n k f N) (.exit 2) (inB g l m cc D ix q z B n k f N) :=
  Round.of ht (ITblOK.nil _) (saysY [(23, false)]) noLoop (yfB_ok g l ix0 d m cc D cut W.cell? []) 6 [decide ((two N : Int) < (n : Int)) = false]
    loopsFor_none (by kernel_rfl) ⟨decide_eq_false (by omega), trivial⟩ (by cases cut <;> kernel_rfl) (by kernel_rfl) e1 e2 e3 e4
end
theorem inB_all (cut : Bool) {Pr : R8 32 → R8 32 → R8 32} (ht : TblOK Tryd.prog (tblSp' Pr)) {W : World} (hr : RoundsIn W.cell?) (ix : UInt64) (q : Nat → A) (z B : Nat → UInt8) (n k : Nat) (hn : n < 1048576) :
    SoundFor Tryd.prog W.cell? [ysB g l ix0 d m cc D cut] (.loop (loopNo Tryd.f123 7)) (inB g l m cc D ix q z B n k (fun _ => Atom.dummy) 0) (.exit 2) (inB g l m cc D ix q z B n k (fun i => .u8 (upB Pr B n z ((n + 1) / 2) i)) ((n + 1) / 2)) := by
  rw [← upF_fun]
  exact fun c q1 q2 q3 q4 => loopAt (c := c) (inv := fun j => inB g l m cc D ix q z B n k (upF Pr B n z j) j) (N := (n + 1) / 2) (by simp)
    (fun j hj => inB_one g l ix0 d m cc D cut ht hr q1 q2 q3 q4 ix q z B n k j hn (by rw [two_eq]; omega)) (inB_end g l ix0 d m cc D cut ht hr q1 q2 q3 q4 ix q z B n k _ _ (by rw [two_eq]; omega))
section
variable (cut : Bool) {Pr : R8 32 → R8 32 → R8 32} (ht : TblOK Tryd.prog (tblSp' Pr)) {W : World} (hr : RoundsIn W.cell?)
variable {c : Cfg A} (e1 : c.P = Tryd.prog) (e2 : c.gl = (fun _ => none)) (e3 : c.old = W.cell?) (e4 : c.ys = [ysB g l ix0 d m cc D cut])
include ht hr e1 e2 e3 e4
theorem outB_one (ix : UInt64) (q : Nat → A) (z B : Nat → UInt8) (n k : Nat) (hn : n < 1048576) (hD : D = (d : Int)) (hk : k < d) (hd : d ≤ 62) :
    Round c (loopNo Tryd.f123 3) (outB g l m cc D ix q z B n k) .normal (outB g l m cc D (shr1 ix) (catF q (timesN k (31 + 1)) (cells32 (sisB B n z ix)) 0) (Pr ⟨z⟩ ⟨z⟩).f (upB Pr B n z ((n + 1) / 2)) ((n + 1) / 2) (k + 1)) := by
  have w1 : WrapI ((k : Int) + 1) := wI (by omega) (by omega)
  have lt : decide ((k : Int) < D + 1) = true := decide_eq_true (by omega)
  have nk : ((k : Int) == D) = false := by rw [beq_eq_false_iff_ne]; omega
  have gr : k = k ∧ timesN k (31 + 1) = c32 k ∧ Sh.Bears (k + 1) 32 := ⟨rfl, by rw [timesN_eq, c32_eq]; omega, by unfold Sh.Bears maxLen; omega⟩
  cases hm : decide (((xorW ix).toNat : Int) < ((cvU (n : Int)).toNat : Int)) with
  | true =>
    have e : sisB B n z ix = elR B ((xorW ix).toNat * 32) := by unfold sisB; rw [hm]
    rw [e]
    have hs := inB_all g l ix0 d m cc D cut ht hr (shr1 ix) (catF q (timesN k (31 + 1)) (cells32 (elR B ((xorW ix).toNat * 32))) 0) z B n k hn
    revert hs
    generalize upB Pr B n z ((n + 1) / 2) = B'
    generalize (n + 1) / 2 = N
    intro hs
    have i0 : IX ((xorW ix).toNat : Int) n := ⟨by omega, by have := of_decide_eq_true hm; have h2 := cvU_nat (i := n) (by omega); omega⟩
    exact Round.of ht (ITblOK.nil _) (orG []) (lps [(7, inB g l m cc D (shr1 ix) (catF q (timesN k (31 + 1)) (cells32 (elR B ((xorW ix).toNat * 32))) 0) z B n k (fun _ => Atom.dummy) 0, .exit 2, inB g l m cc D (shr1 ix) (catF q (timesN k (31 + 1)) (cells32 (elR B ((xorW ix).toNat * 32))) 0) z B n k (fun i => .u8 (B' i)) N)]) (yfB_ok g l ix0 d m cc D cut W.cell? [(46, false)]) 6
        [WrapI ((k : Int) + 1), RoundsIn W.cell?, ToldIs (inB g l m cc D (shr1 ix) (catF q (timesN k (31 + 1)) (cells32 (elR B ((xorW ix).toNat * 32))) 0) z B n k (fun _ => Atom.dummy) 0), k = k ∧ timesN k (31 + 1) = c32 k ∧ Sh.Bears (k + 1) 32, IX ((xorW ix).toNat : Int) n, decide (((xorW ix).toNat : Int) < ((cvU (n : Int)).toNat : Int)) = true, ((k : Int) == D) = false, decide ((k : Int) < D + 1) = true]
        (LoopsFor.cons (by kernel_rfl) hs LoopsFor.nil) (by cases cut <;> kernel_rfl) ⟨w1, hr, toldIs _, gr, i0, hm, nk, lt, trivial⟩ (by cases cut <;> kernel_rfl) (by kernel_rfl) e1 e2 e3 e4
  | false =>
    have e : sisB B n z ix = z := by unfold sisB; rw [hm]
    rw [e]
    have hs := inB_all g l ix0 d m cc D cut ht hr (shr1 ix) (catF q (timesN k (31 + 1)) (cells32 z) 0) z B n k hn
    revert hs
    generalize upB Pr B n z ((n + 1) / 2) = B'
    generalize (n + 1) / 2 = N
    intro hs
    exact Round.of ht (ITblOK.nil _) (orG []) (lps [(7, inB g l m cc D (shr1 ix) (catF q (timesN k (31 + 1)) (cells32 z) 0) z B n k (fun _ => Atom.dummy) 0, .exit 2, inB g l m cc D (shr1 ix) (catF q (timesN k (31 + 1)) (cells32 z) 0) z B n k (fun i => .u8 (B' i)) N)]) (yfB_ok g l ix0 d m cc D cut W.cell? [(46, false), (54, false)]) 6
        [WrapI ((k : Int) + 1), RoundsIn W.cell?, ToldIs (inB g l m cc D (shr1 ix) (catF q (timesN k (31 + 1)) (cells32 z) 0) z B n k (fun _ => Atom.dummy) 0), k = k ∧ timesN k (31 + 1) = c32 k ∧ Sh.Bears (k + 1) 32, decide (((xorW ix).toNat : Int) < ((cvU (n : Int)).toNat : Int)) = false, ((k : Int) == D) = false, decide ((k : Int) < D + 1) = true]
        (LoopsFor.cons (by kernel_rfl) hs LoopsFor.nil) (by cases cut <;> kernel_rfl) ⟨w1, hr, toldIs _, gr, hm, nk, lt, trivial⟩ (by cases cut <;> kernel_rfl) (by kernel_rfl) e1 e2 e3 e4
theorem outB_left (ix : UInt64) (q : Nat → A) (z B : Nat → UInt8) (n : Nat) (hD : D = (d : Int)) :
    Round c (loopNo Tryd.f123 3) (outB g l m cc D ix q z B n d) .ret (leftB g l m cc D ix q z B n d) := by
  have lt : decide ((d : Int) < D + 1) = true := decide_eq_true (by omega)
  have nk : ((d : Int) == D) = true := by rw [beq_iff_eq]; omega
  exact Round.of ht (ITblOK.nil _) (orG []) noLoop (yfB_ok g l ix0 d m cc D cut W.cell? []) 6 [((d : Int) == D) = true, decide ((d : Int) < D + 1) = true]
      loopsFor_none (by cases cut <;> kernel_rfl) ⟨nk, lt, trivial⟩ (by cases cut <;> kernel_rfl) (by kernel_rfl) e1 e2 e3 e4
end
end
end Go.Proofs.YtaloefkkllebeaaDoor
