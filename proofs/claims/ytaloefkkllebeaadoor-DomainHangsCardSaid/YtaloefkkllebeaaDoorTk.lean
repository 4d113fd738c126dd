/- Trees: branches, level by level. -/
import Derived.Test.YtaloefkkllebeaaDoorTj
set_option linter.unusedVariables false
set_option linter.unusedSimpArgs false
set_option linter.unusedSectionVars false
set_option maxRecDepth 100000
namespace Go.Sh
def xorW (x : UInt64) : UInt64 := cvU ((BitVec.ofInt IntKind.u64.bits (x.toNat : Int) ^^^ BitVec.ofInt IntKind.u64.bits 1).toNat : Int)
def andW (x y : UInt64) : UInt64 := cvU ((BitVec.ofInt IntKind.u64.bits (x.toNat : Int) &&& BitVec.ofInt IntKind.u64.bits (y.toNat : Int)).toNat : Int)
def shr1 (x : UInt64) : UInt64 := UInt64.ofNat (x.toNat / 2 ^ min 1 IntKind.u64.bits)
def onesW (D : Int) : UInt64 := cvU (1 * 2 ^ min ((cvU D).toNat : Int).toNat IntKind.u64.bits)
def mskW (D : Int) : UInt64 := cvU (((onesW D).toNat : Int) - 1)
def ixB (ix : UInt64) (D : Int) : Nat → UInt64
  | 0 => andW ix (mskW D)
  | k + 1 => shr1 (ixB ix D k)
/-- The sister of a place. -/
def sisB (B : Nat → UInt8) (n : Nat) (z : Nat → UInt8) (x : UInt64) : Nat → UInt8 :=
  match decide (((xorW x).toNat : Int) < ((cvU (n : Int)).toNat : Int)) with
  | true => elR B ((xorW x).toNat * 32)
  | false => z
/-- Levels, from any on. -/
def lvG (Pr : R8 32 → R8 32 → R8 32) (x : Lv) : Nat → Lv
  | 0 => x
  | k + 1 => ⟨upB Pr (lvG Pr x k).B (lvG Pr x k).n (zK Pr ⟨pickN 0 (List.replicate 32 (UInt8.ofNat 0))⟩ k).f (((lvG Pr x k).n + 1) / 2), ((lvG Pr x k).n + 1) / 2⟩
theorem lvG_len (Pr : R8 32 → R8 32 → R8 32) (x : Lv) : ∀ k, (lvG Pr x k).n ≤ x.n
  | 0 => Nat.le_refl _
  | k + 1 => by
    have := lvG_len Pr x k
    show ((lvG Pr x k).n + 1) / 2 ≤ _
    omega
/-- The sisters, so many. -/
def bF (Pr : R8 32 → R8 32 → R8 32) (x : Lv) (ix : UInt64) (D : Int) : Nat → Nat → A
  | 0 => fun _ => Atom.dummy
  | k + 1 => catF (bF Pr x ix D k) (timesN k (31 + 1)) (cells32 (sisB (lvG Pr x k).B (lvG Pr x k).n (zK Pr ⟨pickN 0 (List.replicate 32 (UInt8.ofNat 0))⟩ k).f (ixB ix D k))) 0
end Go.Sh
namespace Go.Proofs.YtaloefkkllebeaaDoor
open Go Go.Sh
section
variable (g : Spot) (l : List (R8 32)) (ix0 : UInt64) (d m cc : Nat) (D : Int)
def memB (ix : UInt64) (f : Nat → A) (k : Nat) (z : Nat → UInt8) : Mem A :=
  [some ⟨[.n .i64 D], 3, false⟩, some ⟨[.a (.u64 ix)], 40, false⟩, some ⟨[.mk k (c32 k)], 25, false⟩, some ⟨[.gr f 2 k k 32], 59, false⟩, some ⟨[.e g.a (rsAt l) 0 m cc], 59, false⟩, some ⟨[.n .i64 D], 3, false⟩, none, none, some ⟨[.a (.w8 32 z)], 25, false⟩]
/-- The slots of the cut. -/
def cutB (cut : Bool) : List (Nat × TV A) :=
  match cut with
  | false => []
  | true => [(25, .val false [rsE g l]), (26, .val false [.n .i64 D]), (27, .val false [.a (.u64 (cvU D))]), (28, .val false [.n .i64 (pow2W (((cvU D).toNat : Int).toNat : Int))]), (29, .val false [.e g.a (rsAt l) 0 m cc])]
noncomputable def ysB (cut : Bool) : Ys A :=
  ⟨6, [41, 42], rangeA Tryd.f56 8, rangeNo Tryd.f56 8,
    slotsU 0 66 ([(0, .val false [.e g.a (rsAt l) 0 m cc]), (1, .val false [.n .i64 (d : Int)]), (2, .val false [.a (.u64 ix0)]), (4, .val false [.p 0 0]), (5, .val false [.p 1 0]), (6, .val false [.v (.slice none 0 0)]), (7, .val false [.p 3 0]), (12, .val false [.n .i64 (d : Int)]), (13, .val false [.n .i64 (maxI (d : Int))]), (14, .val false [.n .i64 D]), (15, .val false [.n .i64 D]), (16, .val false [.v (.bool true)]), (17, .val false [.v (.bool true)]),
        (18, .val false [rsE g l]), (19, .val false [.n .i64 (l.length : Int)]), (20, .val false [.n .i64 D]), (21, .val false [.a (.u64 (cvU D))]), (22, .val false [.n .i64 (pow2W (((cvU D).toNat : Int).toNat : Int))]), (23, .val false [.v (.bool cut)]), (24, .val false [.v (.bool cut)])] ++ (cutB g l m cc D cut ++
      [(30, .val false [.n .i64 D]), (31, .val false [.v (.bool true)]), (32, .val false [.a (.u64 ix0)]), (33, .val false [.n .i64 D]), (34, .val false [.a (.u64 (cvU D))]), (35, .val false [.a (.u64 (onesW D))]), (36, .val false [.a (.u64 (mskW D))]), (37, .val false [.a (.u64 (andW ix0 (mskW D)))]), (38, .val false [.e g.a (rsAt l) 0 m cc]), (39, .val false [.n .i64 D]), (40, .val false [.f 123 [(4, 0), (5, 0)]])]))⟩
def inB (ix : UInt64) (q : Nat → A) (z : Nat → UInt8) (B : Nat → UInt8) (n k : Nat) (f : Nat → A) (j : Nat) : St A :=
  ⟨slots 0 51 [(0, .val false [.y 6]), (1, .val false [.p 4 0]), (2, .val false [.p 5 0]), (4, .val false [knS B n]), (5, .val false [.p 8 0]), (6, .val false [.gr f 12 j j 32]), (7, .val false [.n .i64 (two j : Int)]), (12, .val false [.n .i64 (D + 1)]), (13, .val false [.n .i64 (k : Int)])],
    memB g l m cc D ix q (k + 1) z ++ [none, none, none, some ⟨[.mk j (c32 j)], 25, false⟩], 0, [], [none]⟩
def outB (ix : UInt64) (q : Nat → A) (z : Nat → UInt8) (B : Nat → UInt8) (n k : Nat) : St A :=
  ⟨slots 0 51 [(0, .val false [.y 6]), (1, .val false [.p 4 0]), (2, .val false [.p 5 0]), (4, .val false [knS B n]), (5, .val false [.p 8 0]), (12, .val false [.n .i64 (D + 1)]), (13, .val false [.n .i64 (k : Int)])],
    memB g l m cc D ix q k z, 0, [], [none]⟩
def leftB (ix : UInt64) (q : Nat → A) (z : Nat → UInt8) (B : Nat → UInt8) (n k : Nat) : St A :=
  ⟨slots 0 51 [(0, .val false [.y 6]), (1, .val false [.p 4 0]), (2, .val false [.p 5 0]), (5, .val false [.p 8 0])], memB g l m cc D ix q k z, 0, [], [some (.exit 0)]⟩
section
variable (cut : Bool) {Pr : R8 32 → R8 32 → R8 32} (ht : TblOK Tryd.prog (tblSp' Pr)) {W : World} (hr : RoundsIn W.cell?)
noncomputable def yfB (cut : Bool) (old : Addr → Option Value) (s : List (Nat × Bool)) : YF A := pushY (exec (cfg Tryd.prog [] (saysY s) old) 4 (ysB g l ix0 d m cc D cut).assign) (exec (cfg Tryd.prog [] (saysY s) old) 4 (ysB g l ix0 d m cc D cut).body) (ysB g l ix0 d m cc D cut) noYield
theorem yfB_ok (old : Addr → Option Value) (s : List (Nat × Bool)) : YFOK Tryd.prog old [ysB g l ix0 d m cc D cut] (yfB g l ix0 d m cc D cut old s) :=
  YFOK.push (cfgOK0 (TblOK.nil _) (ITblOK.nil _) (saysY s) old noLoop) 4 (ysB g l ix0 d m cc D cut) (loopsOK_none _ _ _ _ _ _ _ _) (loopsOK_none _ _ _ _ _ _ _ _)
variable {c : Cfg A} (e1 : c.P = Tryd.prog) (e2 : c.gl = (fun _ => none)) (e3 : c.old = W.cell?) (e4 : c.ys = [ysB g l ix0 d m cc D cut])
include ht hr e1 e2 e3 e4
theorem inB_one (ix : UInt64) (q : Nat → A) (z B : Nat → UInt8) (n k j : Nat) (hn : n < 1048576) (hj : two j < n) :
    Round c (loopNo Tryd.f123 7) (inB g l m cc D ix q z B n k (upF Pr B n z j) j) .normal (inB g l m cc D ix q z B n k (upF Pr B n z (j + 1)) (j + 1)) := by
  have w1 : WrapI ((two j : Int) + 1) := wI (by omega) (by omega)
  have w2 : WrapI ((two j : Int) + 2) := wI (by omega) (by omega)
  have h2 := two_eq j
  have gr : j = j ∧ timesN j (31 + 1) = c32 j ∧ Sh.Bears (j + 1) 32 := ⟨rfl, by rw [timesN_eq, c32_eq]; omega, by unfold Sh.Bears maxLen; omega⟩
  have lt : decide ((two j : Int) < (n : Int)) = true := decide_eq_true (by omega)
  have i0 : IX (two j : Int) n := ⟨by omega, by omega⟩
  cases hm : decide ((two j : Int) + 1 < (n : Int)) with
  | true =>
    have e : riU B n z j = elR B ((two j + 1) * 32) := by unfold riU; rw [hm]
    have e' : upF Pr B n z (j + 1) = catF (upF Pr B n z j) (timesN j (31 + 1)) (cells32 (Pr ⟨elR B (two j * 32)⟩ ⟨elR B ((two j + 1) * 32)⟩).f) 0 := by show catF _ _ (cells32 (Pr _ ⟨riU B n z j⟩).f) 0 = _; rw [e]
    rw [e']
    generalize upF Pr B n z j = f
    have i1 : IX ((two j : Int) + 1) n := ⟨by omega, by have := of_decide_eq_true hm; omega⟩
    exact Round.of ht (ITblOK.nil _) (saysY []) noLoop (yfB_ok g l ix0 d m cc D cut W.cell? []) 6 [WrapI ((two j : Int) + 2), j = j ∧ timesN j (31 + 1) = c32 j ∧ Sh.Bears (j + 1) 32, RoundsIn W.cell?, IX (two j : Int) n, IX ((two j : Int) + 1) n, WrapI ((two j : Int) + 1), decide ((two j : Int) + 1 < (n : Int)) = true, WrapI ((two j : Int) + 1), decide ((two j : Int) < (n : Int)) = true]
      loopsFor_none (by kernel_rfl) ⟨w2, gr, hr, i0, i1, w1, hm, w1, lt, trivial⟩ (by cases cut <;> kernel_rfl) (by kernel_rfl) e1 e2 e3 e4
  | false =>
    have e : riU B n z j = z := by unfold riU; rw [hm]
    have e' : upF Pr B n z (j + 1) = catF (upF Pr B n z j) (timesN j (31 + 1)) (cells32 (Pr ⟨elR B (two j * 32)⟩ ⟨z⟩).f) 0 := by show catF _ _ (cells32 (Pr _ ⟨riU B n z j⟩).f) 0 = _; rw [e]
    rw [e']
    generalize upF Pr B n z j = f
    exact Round.of ht (ITblOK.nil _) (saysY [(31, false)]) noLoop (yfB_ok g l ix0 d m cc D cut W.cell? []) 6 [WrapI ((two j : Int) + 2), j = j ∧ timesN j (31 + 1) = c32 j ∧ Sh.Bears (j + 1) 32, RoundsIn W.cell?, IX (two j : Int) n, decide ((two j : Int) + 1 < (n : Int)) = false, WrapI ((two j : Int) + 1), decide ((two j : Int) < (n : Int)) = true]
      loopsFor_none (by kernel_rfl) ⟨w2, gr, hr, i0, hm, w1, lt, trivial⟩ (by cases cut <;> kernel_rfl) (by kernel_rfl) e1 e2 e3 e4
theorem inB_end (ix : UInt64) (q : Nat → A) (z B : Nat → UInt8) (n k N : Nat) (f : Nat → A) (hj : n ≤ two N) :
    Round c (loopNo Tryd.f123 7) (inB g l m cc D ix q z B n k f N) (.exit 2) (inB g l m cc D ix q z B n k f N) :=
  Round.of ht (ITblOK.nil _) (saysY [(23, false)]) noLoop (yfB_ok g l ix0 d m cc D cut W.cell? []) 6 [decide ((two N : Int) < (n : Int)) = false]
    loopsFor_none (by kernel_rfl) ⟨decide_eq_false (by omega), trivial⟩ (by cases cut <;> kernel_rfl) (by kernel_rfl) e1 e2 e3 e4
end
theorem inB_all (cut : Bool) {Pr : R8 32 → R8 32 → R8 32} (ht : TblOK Tryd.prog (tblSp' Pr)) {W : World} (hr : RoundsIn W.cell?) (ix : UInt64) (q : Nat → A) (z B : Nat → UInt8) (n k : Nat) (hn : n < 1048576) :
    SoundFor Tryd.prog W.cell? [ysB g l ix0 d m cc D cut] (.loop (loopNo Tryd.f123 7)) (inB g l m cc D ix q z B n k (fun _ => Atom.dummy) 0) (.exit 2) (inB g l m cc D ix q z B n k (fun i => .u8 (upB Pr B n z ((n + 1) / 2) i)) ((n + 1) / 2)) := by
  rw [← upF_fun]
  exact fun c q1 q2 q3 q4 => loopAt (c := c) (inv := fun j => inB g l m cc D ix q z B n k (upF Pr B n z j) j) (N := (n + 1) / 2) (by simp)
    (fun j hj => inB_one g l ix0 d m cc D cut ht hr q1 q2 q3 q4 ix q z B n k j hn (by rw [two_eq]; omega)) (inB_end g l ix0 d m cc D cut ht hr q1 q2 q3 q4 ix q z B n k _ _ (by rw [two_eq]; omega))
section
variable (cut : Bool) {Pr : R8 32 → R8 32 → R8 32} (ht : TblOK Tryd.prog (tblSp' Pr)) {W : World} (hr : RoundsIn W.cell?)
variable {c : Cfg A} (e1 : c.P = Tryd.prog) (e2 : c.gl = (fun _ => none)) (e3 : c.old = W.cell?) (e4 : c.ys = [ysB g l ix0 d m cc D cut])
include ht hr e1 e2 e3 e4
theorem outB_one (ix : UInt64) (q : Nat → A) (z B : Nat → UInt8) (n k : Nat) (hn : n < 1048576) (hD : D = (d : Int)) (hk : k < d) (hd : d ≤ 62) :
    Round c (loopNo Tryd.f123 3) (outB g l m cc D ix q z B n k) .normal (outB g l m cc D (shr1 ix) (catF q (timesN k (31 + 1)) (cells32 (sisB B n z ix)) 0) (Pr ⟨z⟩ ⟨z⟩).f (upB Pr B n z ((n + 1) / 2)) ((n + 1) / 2) (k + 1)) := by
  have w1 : WrapI ((k : Int) + 1) := wI (by omega) (by omega)
  have lt : decide ((k : Int) < D + 1) = true := decide_eq_true (by omega)
  have nk : ((k : Int) == D) = false := by rw [beq_eq_false_iff_ne]; omega
  have gr : k = k ∧ timesN k (31 + 1) = c32 k ∧ Sh.Bears (k + 1) 32 := ⟨rfl, by rw [timesN_eq, c32_eq]; omega, by unfold Sh.Bears maxLen; omega⟩
  cases hm : decide (((xorW ix).toNat : Int) < ((cvU (n : Int)).toNat : Int)) with
  | true =>
    have e : sisB B n z ix = elR B ((xorW ix).toNat * 32) := by unfold sisB; rw [hm]
    rw [e]
    have hs := inB_all g l ix0 d m cc D cut ht hr (shr1 ix) (catF q (timesN k (31 + 1)) (cells32 (elR B ((xorW ix).toNat * 32))) 0) z B n k hn
    revert hs
    generalize upB Pr B n z ((n + 1) / 2) = B'
    generalize (n + 1) / 2 = N
    intro hs
    have i0 : IX ((xorW ix).toNat : Int) n := ⟨by omega, by have := of_decide_eq_true hm; have h2 := cvU_nat (i := n) (by omega); omega⟩
    exact Round.of ht (ITblOK.nil _) (orG []) (lps [(7, inB g l m cc D (shr1 ix) (catF q (timesN k (31 + 1)) (cells32 (elR B ((xorW ix).toNat * 32))) 0) z B n k (fun _ => Atom.dummy) 0, .exit 2, inB g l m cc D (shr1 ix) (catF q (timesN k (31 + 1)) (cells32 (elR B ((xorW ix).toNat * 32))) 0) z B n k (fun i => .u8 (B' i)) N)]) (yfB_ok g l ix0 d m cc D cut W.cell? [(46, false)]) 6
        [WrapI ((k : Int) + 1), RoundsIn W.cell?, ToldIs (inB g l m cc D (shr1 ix) (catF q (timesN k (31 + 1)) (cells32 (elR B ((xorW ix).toNat * 32))) 0) z B n k (fun _ => Atom.dummy) 0), k = k ∧ timesN k (31 + 1) = c32 k ∧ Sh.Bears (k + 1) 32, IX ((xorW ix).toNat : Int) n, decide (((xorW ix).toNat : Int) < ((cvU (n : Int)).toNat : Int)) = true, ((k : Int) == D) = false, decide ((k : Int) < D + 1) = true]
        (LoopsFor.cons (by kernel_rfl) hs LoopsFor.nil) (by cases cut <;> kernel_rfl) ⟨w1, hr, toldIs _, gr, i0, hm, nk, lt, trivial⟩ (by cases cut <;> kernel_rfl) (by kernel_rfl) e1 e2 e3 e4
  | false =>
    have e : sisB B n z ix = z := by unfold sisB; rw [hm]
    rw [e]
    have hs := inB_all g l ix0 d m cc D cut ht hr (shr1 ix) (catF q (timesN k (31 + 1)) (cells32 z) 0) z B n k hn
    revert hs
    generalize upB Pr B n z ((n + 1) / 2) = B'
    generalize (n + 1) / 2 = N
    intro hs
    exact Round.of ht (ITblOK.nil _) (orG []) (lps [(7, inB g l m cc D (shr1 ix) (catF q (timesN k (31 + 1)) (cells32 z) 0) z B n k (fun _ => Atom.dummy) 0, .exit 2, inB g l m cc D (shr1 ix) (catF q (timesN k (31 + 1)) (cells32 z) 0) z B n k (fun i => .u8 (B' i)) N)]) (yfB_ok g l ix0 d m cc D cut W.cell? [(46, false), (54, false)]) 6
        [WrapI ((k : Int) + 1), RoundsIn W.cell?, ToldIs (inB g l m cc D (shr1 ix) (catF q (timesN k (31 + 1)) (cells32 z) 0) z B n k (fun _ => Atom.dummy) 0), k = k ∧ timesN k (31 + 1) = c32 k ∧ Sh.Bears (k + 1) 32, decide (((xorW ix).toNat : Int) < ((cvU (n : Int)).toNat : Int)) = false, ((k : Int) == D) = false, decide ((k : Int) < D + 1) = true]
        (LoopsFor.cons (by kernel_rfl) hs LoopsFor.nil) (by cases cut <;> kernel_rfl) ⟨w1, hr, toldIs _, gr, hm, nk, lt, trivial⟩ (by cases cut <;> kernel_rfl) (by kernel_rfl) e1 e2 e3 e4
theorem outB_left (ix : UInt64) (q : Nat → A) (z B : Nat → UInt8) (n : Nat) (hD : D = (d : Int)) :
    Round c (loopNo Tryd.f123 3) (outB g l m cc D ix q z B n d) .ret (leftB g l m cc D ix q z B n d) := by
  have lt : decide ((d : Int) < D + 1) = true := decide_eq_true (by omega)
  have nk : ((d : Int) == D) = true := by rw [beq_iff_eq]; omega
  exact Round.of ht (ITblOK.nil _) (orG []) noLoop (yfB_ok g l ix0 d m cc D cut W.cell? []) 6 [((d : Int) == D) = true, decide ((d : Int) < D + 1) = true]
      loopsFor_none (by cases cut <;> kernel_rfl) ⟨nk, lt, trivial⟩ (by cases cut <;> kernel_rfl) (by kernel_rfl) e1 e2 e3 e4
end
end
end Go.Proofs.YtaloefkkllebeaaDoor

/- Trees: Branch's contract. -/
namespace Go.Proofs.YtaloefkkllebeaaDoor
open Go Go.Sh
def orX (s : List (Nat × Bool)) : Nat → Nat → Dec := fun r t => match Nat.beq t 7 with | true => .grow 25 32 | false => saysY s r t
noncomputable def itB (Pr : R8 32 → R8 32 → R8 32) (g : Spot) (l : List (R8 32)) (m cc : Nat) (D : Int) (ix ix' : UInt64) (q : Nat → A) (z B : Nat → UInt8) (n d : Nat) : List (IRow A) :=
  [iterW Tryd.prog (tblSp' Pr) [] (fun _ _ => .keep) (lps [(3, outB g l m cc D ix (fun _ => Atom.dummy) zR.f (fun q => rsB l (0 + q)) m 0, .ret, leftB g l m cc D ix' q z B n d)]) 6 123 Tryd.f123]
/-- How many chunks a branch looks at. -/
def mB (l : List (R8 32)) (D : Int) : Nat := match decide ((l.length : Int) > pow2W (((cvU D).toNat : Int).toNat : Int)) with | true => (pow2W (((cvU D).toNat : Int).toNat : Int)).toNat - 0 | false => l.length
def branchF (Pr : R8 32 → R8 32 → R8 32) (l : List (R8 32)) (ix : UInt64) (D : Int) (d : Nat) : Nat → A := bF Pr ⟨fun q => rsB l (0 + q), mB l D⟩ ix D d
def branchV (Pr : R8 32 → R8 32 → R8 32) (l : List (R8 32)) (ix : UInt64) (d : Nat) : List (R8 32) := cutR 32 (fun j => u8of (branchF Pr l ix (mmI (d : Int)) d (0 + j))) d
theorem bF_u8 (Pr : R8 32 → R8 32 → R8 32) (x : Lv) (ix : UInt64) (D : Int) : ∀ (k i : Nat), isU8 (bF Pr x ix D k i) = true
  | 0, i => rfl
  | k + 1, i => by
    simp only [bF, catF]
    split
    · exact bF_u8 Pr x ix D k i
    · rw [cells32_u8]; rfl
theorem branch_of {Pr : R8 32 → R8 32 → R8 32} (ht : TblOK Tryd.prog (tblSp' Pr)) : Computes A Tryd.prog 56 (fun x : GA (Rt 32 × Dp 9 × UInt64 × Unit) => (⟨branchV Pr x.x.1.l x.x.2.2.1 x.x.2.1.n⟩ : Rz 32)) := by
  refine computes_of_runT Tryd.func56 (by kernel_rfl) (by kernel_rfl) 6 ?_
  rintro ⟨g, _⟩ ⟨⟨⟨l⟩, ⟨d⟩, ix, ⟨⟩⟩⟩ W ⟨hr, ⟨hg, hn⟩, hd9, _⟩
  have hG : HasRows W l g := hg
  have hN : l.length < 1048576 := hn
  have hd : d ≤ 9 := hd9
  have hD : mmI (d : Int) = (d : Int) := by rw [mmI_eq]; omega
  have eU : ((cvU (d : Int)).toNat : Int).toNat = d := cvU_nat (by omega)
  have eP : pow2W (((cvU (mmI (d : Int))).toNat : Int).toNat : Int) = (2 : Int) ^ d := by rw [hD, eU, pow2W_eq (by omega)]
  have hp := two_pow_le (i := d) (by omega)
  have w1 : WrapI (mmI (d : Int) + 1) := by rw [hD]; exact wI (by omega) (by omega)
  have w2 : WrapI (pow2W (((cvU (mmI (d : Int))).toNat : Int).toNat : Int)) := by rw [eP]; exact wI (by omega) (by omega)
  have c0 : (0 : Int) ≤ ((cvU (mmI (d : Int))).toNat : Int) := by omega
  have d64 : decide (mmI (d : Int) < 64) = true := decide_eq_true (by omega)
  have d62 : decide (mmI (d : Int) < 62) = true := decide_eq_true (by omega)
  show ∃ tbl its, _ ∧ _ ∧ ∃ orc lp y vc, _ ∧ _ ∧ y = (⟨cutR 32 (fun j => u8of (bF Pr ⟨fun q => rsB l (0 + q), mB l (mmI (d : Int))⟩ ix (mmI (d : Int)) d (0 + j))) d⟩ : Rz 32) ∧ _
  have hb1 : ∀ cut m cc, m < 1048576 → SoundFor Tryd.prog W.cell? [ysB g l ix d m cc (mmI (d : Int)) cut] (.loop (loopNo Tryd.f123 3)) (outB g l m cc (mmI (d : Int)) (ixB ix (mmI (d : Int)) 0) (fun _ => Atom.dummy) zR.f (fun q => rsB l (0 + q)) m 0) .ret
      (leftB g l m cc (mmI (d : Int)) (ixB ix (mmI (d : Int)) d) (bF Pr ⟨fun q => rsB l (0 + q), m⟩ ix (mmI (d : Int)) d) (zK Pr zR d).f (lvG Pr ⟨fun q => rsB l (0 + q), m⟩ d).B (lvG Pr ⟨fun q => rsB l (0 + q), m⟩ d).n d) := fun cut m cc hm c q1 q2 q3 q4 =>
    loopAt (c := c) (inv := fun k => outB g l m cc (mmI (d : Int)) (ixB ix (mmI (d : Int)) k) (bF Pr ⟨fun q => rsB l (0 + q), m⟩ ix (mmI (d : Int)) k) (zK Pr zR k).f (lvG Pr ⟨fun q => rsB l (0 + q), m⟩ k).B (lvG Pr ⟨fun q => rsB l (0 + q), m⟩ k).n k) (N := d) (by simp)
      (fun k hk => outB_one g l ix d m cc _ cut ht hr q1 q2 q3 q4 _ _ _ _ _ k (Nat.lt_of_le_of_lt (lvG_len Pr ⟨fun q => rsB l (0 + q), m⟩ k) hm) hD hk (by omega)) (outB_left g l ix d m cc _ cut ht hr q1 q2 q3 q4 _ _ _ _ _ hD)
  cases hl : decide ((l.length : Int) > pow2W (((cvU (mmI (d : Int))).toNat : Int).toNat : Int)) with
  | false =>
    have em : mB l (mmI (d : Int)) = l.length := by unfold mB; rw [hl]
    rw [em]
    have hs := hb1 false l.length g.c hN
    have hu := bF_u8 Pr ⟨fun q => rsB l (0 + q), l.length⟩ ix (mmI (d : Int)) d
    revert hs hu
    generalize bF Pr ⟨fun q => rsB l (0 + q), l.length⟩ ix (mmI (d : Int)) d = q
    generalize (zK Pr zR d).f = z
    generalize (lvG Pr ⟨fun q => rsB l (0 + q), l.length⟩ d).B = B
    generalize (lvG Pr ⟨fun q => rsB l (0 + q), l.length⟩ d).n = n
    generalize ixB ix (mmI (d : Int)) d = ix'
    intro hs hu
    have hi : ITblOK Tryd.prog (itB Pr g l l.length g.c (mmI (d : Int)) (ixB ix (mmI (d : Int)) 0) ix' q z B n d) := .cons (iterW_ok ht (ITblOK.nil _) _ _ 6 Tryd.func123 (by kernel_rfl) (by kernel_rfl)) (ITblOK.nil _)
    have hb : ∀ body, Tryd.f123.body = some body → LoopsFor Tryd.prog W.cell? [ysB g l ix d l.length g.c (mmI (d : Int)) false] (lps [(3, outB g l l.length g.c (mmI (d : Int)) (ixB ix (mmI (d : Int)) 0) (fun _ => Atom.dummy) zR.f (fun q => rsB l (0 + q)) l.length 0, .ret, leftB g l l.length g.c (mmI (d : Int)) ix' q z B n d)]) body := fun body hb => by
      obtain rfl := Option.some.inj hb
      exact LoopsFor.cons (by kernel_rfl) hs LoopsFor.nil
    have bb : Sh.Bears l.length 32 := by unfold Sh.Bears maxLen; omega
    have rd : Reads W.cell? g.a (rsAt (l := l)) 0 (l.length * 32) := reads_rows (n := 32) hG (by omega)
    exact ⟨_, _, .cons levelsRow_ok (.nil _), hi, orX [(24, false), (23, false)], noLoop, ⟨cutR 32 (fun j => u8of (q (0 + j))) d⟩, [∀ j, j < d * 32 → isU8 (q (0 + j)) = true, ∀ body, Tryd.f123.body = some body → LoopsFor Tryd.prog W.cell? [ysB g l ix d l.length g.c (mmI (d : Int)) false] (lps [(3, outB g l l.length g.c (mmI (d : Int)) (ixB ix (mmI (d : Int)) 0) (fun _ => Atom.dummy) zR.f (fun q => rsB l (0 + q)) l.length 0, .ret, leftB g l l.length g.c (mmI (d : Int)) ix' q z B n d)]) body,
      ToldIs (outB g l l.length g.c (mmI (d : Int)) (ixB ix (mmI (d : Int)) 0) (fun _ => Atom.dummy) zR.f (fun q => rsB l (0 + q)) l.length 0), WrapI (mmI (d : Int) + 1), Sh.Bears l.length 32, Reads W.cell? g.a (rsAt l) 0 (l.length * 32), (0 : Int) ≤ ((cvU (mmI (d : Int))).toNat : Int), decide (mmI (d : Int) < 64) = true, decide ((l.length : Int) > pow2W (((cvU (mmI (d : Int))).toNat : Int).toNat : Int)) = false,
      WrapI (pow2W (((cvU (mmI (d : Int))).toNat : Int).toNat : Int)), (0 : Int) ≤ ((cvU (mmI (d : Int))).toNat : Int), decide (mmI (d : Int) < 62) = true], by kernel_rfl,
      ⟨fun j _ => hu _, hb, toldIs _, w1, bb, rd, c0, d64, hl, w2, c0, d62, trivial⟩, rfl, fun body _ => loopsFor_none⟩
  | true =>
    have hgt := of_decide_eq_true hl
    have em : mB l (mmI (d : Int)) = (pow2W (((cvU (mmI (d : Int))).toNat : Int).toNat : Int)).toNat - 0 := by unfold mB; rw [hl]
    rw [em]
    have hm1 : (pow2W (((cvU (mmI (d : Int))).toNat : Int).toNat : Int)).toNat - 0 < 1048576 := by omega
    have hm2 : (pow2W (((cvU (mmI (d : Int))).toNat : Int).toNat : Int)).toNat - 0 ≤ l.length := by omega
    have hgc := hG.1
    have pc : 0 ≤ pow2W (((cvU (mmI (d : Int))).toNat : Int).toNat : Int) ∧ pow2W (((cvU (mmI (d : Int))).toNat : Int).toNat : Int) ≤ (g.c : Int) := by omega
    have hs := hb1 true ((pow2W (((cvU (mmI (d : Int))).toNat : Int).toNat : Int)).toNat - 0) (g.c - 0) hm1
    have hu := bF_u8 Pr ⟨fun q => rsB l (0 + q), (pow2W (((cvU (mmI (d : Int))).toNat : Int).toNat : Int)).toNat - 0⟩ ix (mmI (d : Int)) d
    have bb : Sh.Bears ((pow2W (((cvU (mmI (d : Int))).toNat : Int).toNat : Int)).toNat - 0) 32 := by unfold Sh.Bears maxLen; omega
    have rd : Reads W.cell? g.a (rsAt (l := l)) 0 (((pow2W (((cvU (mmI (d : Int))).toNat : Int).toNat : Int)).toNat - 0) * 32) := reads_rows (n := 32) hG (by omega)
    revert hs hu
    generalize bF Pr ⟨fun q => rsB l (0 + q), (pow2W (((cvU (mmI (d : Int))).toNat : Int).toNat : Int)).toNat - 0⟩ ix (mmI (d : Int)) d = q
    generalize (zK Pr zR d).f = z
    generalize (lvG Pr ⟨fun q => rsB l (0 + q), (pow2W (((cvU (mmI (d : Int))).toNat : Int).toNat : Int)).toNat - 0⟩ d).B = B
    generalize (lvG Pr ⟨fun q => rsB l (0 + q), (pow2W (((cvU (mmI (d : Int))).toNat : Int).toNat : Int)).toNat - 0⟩ d).n = n
    generalize ixB ix (mmI (d : Int)) d = ix'
    intro hs hu
    have hi : ITblOK Tryd.prog (itB Pr g l ((pow2W (((cvU (mmI (d : Int))).toNat : Int).toNat : Int)).toNat - 0) (g.c - 0) (mmI (d : Int)) (ixB ix (mmI (d : Int)) 0) ix' q z B n d) := .cons (iterW_ok ht (ITblOK.nil _) _ _ 6 Tryd.func123 (by kernel_rfl) (by kernel_rfl)) (ITblOK.nil _)
    have hb : ∀ body, Tryd.f123.body = some body → LoopsFor Tryd.prog W.cell? [ysB g l ix d ((pow2W (((cvU (mmI (d : Int))).toNat : Int).toNat : Int)).toNat - 0) (g.c - 0) (mmI (d : Int)) true] (lps [(3, outB g l ((pow2W (((cvU (mmI (d : Int))).toNat : Int).toNat : Int)).toNat - 0) (g.c - 0) (mmI (d : Int)) (ixB ix (mmI (d : Int)) 0) (fun _ => Atom.dummy) zR.f (fun q => rsB l (0 + q)) ((pow2W (((cvU (mmI (d : Int))).toNat : Int).toNat : Int)).toNat - 0) 0, .ret, leftB g l ((pow2W (((cvU (mmI (d : Int))).toNat : Int).toNat : Int)).toNat - 0) (g.c - 0) (mmI (d : Int)) ix' q z B n d)]) body := fun body hb => by
      obtain rfl := Option.some.inj hb
      exact LoopsFor.cons (by kernel_rfl) hs LoopsFor.nil
    exact ⟨_, _, .cons levelsRow_ok (.nil _), hi, orX [], noLoop, ⟨cutR 32 (fun j => u8of (q (0 + j))) d⟩, [∀ j, j < d * 32 → isU8 (q (0 + j)) = true, ∀ body, Tryd.f123.body = some body → LoopsFor Tryd.prog W.cell? [ysB g l ix d ((pow2W (((cvU (mmI (d : Int))).toNat : Int).toNat : Int)).toNat - 0) (g.c - 0) (mmI (d : Int)) true] (lps [(3, outB g l ((pow2W (((cvU (mmI (d : Int))).toNat : Int).toNat : Int)).toNat - 0) (g.c - 0) (mmI (d : Int)) (ixB ix (mmI (d : Int)) 0) (fun _ => Atom.dummy) zR.f (fun q => rsB l (0 + q)) ((pow2W (((cvU (mmI (d : Int))).toNat : Int).toNat : Int)).toNat - 0) 0, .ret, leftB g l ((pow2W (((cvU (mmI (d : Int))).toNat : Int).toNat : Int)).toNat - 0) (g.c - 0) (mmI (d : Int)) ix' q z B n d)]) body,
      ToldIs (outB g l ((pow2W (((cvU (mmI (d : Int))).toNat : Int).toNat : Int)).toNat - 0) (g.c - 0) (mmI (d : Int)) (ixB ix (mmI (d : Int)) 0) (fun _ => Atom.dummy) zR.f (fun q => rsB l (0 + q)) ((pow2W (((cvU (mmI (d : Int))).toNat : Int).toNat : Int)).toNat - 0) 0), WrapI (mmI (d : Int) + 1), Sh.Bears ((pow2W (((cvU (mmI (d : Int))).toNat : Int).toNat : Int)).toNat - 0) 32, Reads W.cell? g.a (rsAt l) 0 (((pow2W (((cvU (mmI (d : Int))).toNat : Int).toNat : Int)).toNat - 0) * 32), (0 : Int) ≤ ((cvU (mmI (d : Int))).toNat : Int), decide (mmI (d : Int) < 64) = true,
      0 ≤ pow2W (((cvU (mmI (d : Int))).toNat : Int).toNat : Int) ∧ pow2W (((cvU (mmI (d : Int))).toNat : Int).toNat : Int) ≤ (g.c : Int), WrapI (pow2W (((cvU (mmI (d : Int))).toNat : Int).toNat : Int)), (0 : Int) ≤ ((cvU (mmI (d : Int))).toNat : Int), decide ((l.length : Int) > pow2W (((cvU (mmI (d : Int))).toNat : Int).toNat : Int)) = true,
      WrapI (pow2W (((cvU (mmI (d : Int))).toNat : Int).toNat : Int)), (0 : Int) ≤ ((cvU (mmI (d : Int))).toNat : Int), decide (mmI (d : Int) < 62) = true], by kernel_rfl,
      ⟨fun j _ => hu _, hb, toldIs _, w1, bb, rd, c0, d64, pc, w2, c0, hl, w2, c0, d62, trivial⟩, rfl, fun body _ => loopsFor_none⟩
theorem branch_ok : Computes A Tryd.prog 56 (fun x : GA (Rt 32 × Dp 9 × UInt64 × Unit) => (⟨branchV pairR8 x.x.1.l x.x.2.2.1 x.x.2.1.n⟩ : Rz 32)) := branch_of (.cons pair_ok.row (.nil _))
end Go.Proofs.YtaloefkkllebeaaDoor

/- Places; a tree's nodes; a branch's rows. -/
namespace Go.Sh
/-- How many places there are. -/
structure Ps where
  z : Int
instance : Arg A Ps where
  G := Unit
  good W g x := 0 < x.z ∧ x.z ≤ 4611686018427387904
  tv g x := .val false [.n .i64 x.z]
  val g x := .int .i64 x.z
  is := by
    intro W g x β h
    exact LIs.of_single rfl
  parse old m t := match Arg.parse (A := A) (T := Int) old m t with | some (z, vc) => some (⟨z⟩, (0 < z ∧ z ≤ 4611686018427387904) :: vc) | none => none
  ok := by
    intro c X W0 W β m t x vc v h hvc hm e
    split at h
    · rename_i z vc' hz
      simp at h
      obtain ⟨rfl, rfl⟩ := h
      obtain ⟨g, h1, h2⟩ := Arg.ok (A := A) (T := Int) (c := c) (m := m) (t := t) hz (fun p hp => hvc p (by simp [hp])) hm e
      exact ⟨(), hvc _ (by simp), h2⟩
    · cases h
def placeV (k n : Int) : Int := match decide (k.tmod n < 0) with | true => k.tmod n + n | false => k.tmod n
theorem placeV_ok (k : Int) {n : Int} (h : 0 < n) : 0 ≤ placeV k n ∧ placeV k n < n := by
  unfold placeV
  have h1 : k.tmod n < n := Int.tmod_lt_of_pos k h
  have h2 : -n < k.tmod n := Int.lt_tmod_of_pos k h
  by_cases h3 : k.tmod n < 0
  · rw [decide_eq_true h3]; simp only; omega
  · rw [decide_eq_false h3]; simp only; omega
end Go.Sh
namespace Go.Sh
/-! ### Numbers of 64 bits -/
theorem cvU_nat' {i : Nat} (h : i < 18446744073709551616) : (cvU (i : Int)).toNat = i := by
  have := cvU_nat h
  omega
theorem bv64 (n : Nat) (h : n < 18446744073709551616) : (BitVec.ofInt IntKind.u64.bits (n : Int)).toNat = n := by
  show (BitVec.ofInt 64 (n : Int)).toNat = n
  rw [BitVec.ofInt_natCast, BitVec.toNat_ofNat]
  exact Nat.mod_eq_of_lt h
theorem bv1 : (BitVec.ofInt IntKind.u64.bits 1).toNat = 1 := by decide
theorem u64_lt (x : UInt64) : x.toNat < 18446744073709551616 := x.toNat_lt
theorem xorW_nat (x : UInt64) : (xorW x).toNat = x.toNat ^^^ 1 := by
  unfold xorW
  rw [BitVec.toNat_xor, bv64 _ (u64_lt x), bv1]
  exact cvU_nat' (show x.toNat ^^^ 1 < 2 ^ 64 from Nat.xor_lt_two_pow (u64_lt x) (by decide))
theorem andW_nat (x y : UInt64) : (andW x y).toNat = x.toNat &&& y.toNat := by
  unfold andW
  rw [BitVec.toNat_and, bv64 _ (u64_lt x), bv64 _ (u64_lt y)]
  exact cvU_nat' (show x.toNat &&& y.toNat < 2 ^ 64 from Nat.and_lt_two_pow _ (u64_lt y))
theorem shr1_nat (x : UInt64) : (shr1 x).toNat = x.toNat / 2 := by
  unfold shr1
  have := u64_lt x
  rw [show min 1 IntKind.u64.bits = 1 from rfl, UInt64.toNat_ofNat_of_lt' (show x.toNat / 2 ^ 1 < 18446744073709551616 by omega)]
theorem pow_lt64 {d : Nat} (h : d ≤ 62) : 0 < 2 ^ d ∧ 2 ^ d < 18446744073709551616 := by
  have h1 : (2 : Nat) ^ d ≤ 2 ^ 62 := Nat.pow_le_pow_right (by decide) h
  have h3 : (2 : Nat) ^ 62 = 4611686018427387904 := by decide
  exact ⟨Nat.pow_pos (by decide), by omega⟩
theorem onesW_nat {d : Nat} (h : d ≤ 62) : (onesW (d : Int)).toNat = 2 ^ d := by
  unfold onesW
  rw [cvU_nat (by omega), Int.one_mul, show IntKind.u64.bits = 64 from rfl, Nat.min_eq_left (by omega)]
  have e : ((2 : Int) ^ d) = ((2 ^ d : Nat) : Int) := by rw [Int.natCast_pow]; rfl
  rw [e]
  exact cvU_nat' (pow_lt64 h).2
theorem mskW_nat {d : Nat} (h : d ≤ 62) : (mskW (d : Int)).toNat = 2 ^ d - 1 := by
  unfold mskW
  rw [onesW_nat h]
  have hp := pow_lt64 h
  have e : ((2 ^ d : Nat) : Int) - 1 = ((2 ^ d - 1 : Nat) : Int) := by omega
  rw [e]
  exact cvU_nat' (by omega)
theorem ixB_nat (ix : UInt64) {d : Nat} (h : d ≤ 62) : ∀ k, (ixB ix (d : Int) k).toNat = ix.toNat % 2 ^ d / 2 ^ k
  | 0 => by
    show (andW ix (mskW (d : Int))).toNat = _
    rw [andW_nat, mskW_nat h, Nat.and_two_pow_sub_one_eq_mod, Nat.pow_zero, Nat.div_one]
  | k + 1 => by
    show (shr1 (ixB ix (d : Int) k)).toNat = _
    rw [shr1_nat, ixB_nat ix h k, Nat.div_div_eq_div_mul, ← Nat.pow_succ]
theorem bitQ_eq (x : UInt64) {i : Nat} (h : i < 64) : bitQ x i = decide (x.toNat / 2 ^ i % 2 = 1) := by
  unfold bitQ
  have hx := u64_lt x
  have hd : x.toNat / 2 ^ i ≤ x.toNat := Nat.div_le_self _ _
  rw [show min i IntKind.u64.bits = i from Nat.min_eq_left (by show i ≤ 64; omega), UInt64.toNat_ofNat_of_lt' (show x.toNat / 2 ^ i < 18446744073709551616 by omega), BitVec.toNat_and, bv64 _ (by omega), bv1, Nat.and_one_is_mod]
  have e : (UInt64.ofNat ((((x.toNat / 2 ^ i % 2 : Nat) : Int)) % 18446744073709551616).toNat).toNat = x.toNat / 2 ^ i % 2 := cvU_nat' (i := x.toNat / 2 ^ i % 2) (by omega)
  rw [e]
  rcases Nat.mod_two_eq_zero_or_one (x.toNat / 2 ^ i) with h0 | h0 <;> rw [h0] <;> rfl
theorem shW_nat (x : UInt64) {d : Nat} (h : d ≤ 62) : (shW x (d : Int)).toNat = x.toNat / 2 ^ d := by
  unfold shW
  have hx := u64_lt x
  have hd : x.toNat / 2 ^ d ≤ x.toNat := Nat.div_le_self _ _
  rw [cvU_nat (by omega), show min d IntKind.u64.bits = d from Nat.min_eq_left (by show d ≤ 64; omega), UInt64.toNat_ofNat_of_lt' (show x.toNat / 2 ^ d < 18446744073709551616 by omega)]
theorem xor1 (j : Nat) : j ^^^ 1 = if j % 2 = 1 then j - 1 else j + 1 := by
  have h := Nat.div_add_mod j 2
  have h2 : (j ^^^ 1) / 2 = j / 2 := by rw [Nat.xor_div_two]; simp
  have h3 : (j ^^^ 1) % 2 = (j + 1) % 2 := by
    have e := Nat.xor_mod_two_pow (a := j) (b := 1) (n := 1)
    rw [Nat.pow_one] at e
    rw [e]
    rcases Nat.mod_two_eq_zero_or_one j with h0 | h0
    · rw [h0, show (j + 1) % 2 = 1 by omega]; decide
    · rw [h0, show (j + 1) % 2 = 0 by omega]; decide
  have h4 := Nat.div_add_mod (j ^^^ 1) 2
  split <;> omega
/-! ### Rows -/
theorem elR_elR (B : Nat → UInt8) (i : Nat) : elR (elR B i) 0 = elR B i := by
  unfold elR
  rw [extR_congr (pickN 0 (extR B i 32)) B 32 0 i (fun j hj => by rw [Nat.zero_add, extR_at _ _ _ _ hj])]
theorem start_rows (l : List (R8 32)) (m : Nat) (h : m ≤ l.length) : (Lv.mk (fun q => rsB l (0 + q)) m).rows = (nm l).take m := by
  unfold Lv.rows nm
  apply List.ext_getElem?
  intro k
  rw [List.getElem?_map, List.getElem?_take, List.getElem?_map]
  by_cases hk : k < m
  · rw [if_pos hk, List.getElem?_range hk, List.getElem?_range (by omega)]
    show some (R8.mk (elR (fun q => rsB l (0 + q)) (k * 32))) = some (R8.mk (elL l k))
    rw [elR_congr (G := rsB l) (k := k * 32) (fun j _ => by rw [Nat.zero_add])]
    rfl
  · rw [if_neg hk, List.getElem?_eq_none (by simp; omega)]
    rfl
end Go.Sh
namespace Go.Proofs.YtaloefkkllebeaaDoor
open Go Go.Sh
theorem place_ok : Computes A Tryd.prog 31 (fun x : Int × Ps × Unit => placeV x.1 x.2.1.z) := by
  refine computes_of_run (TblOK.nil _) Tryd.func31 (by kernel_rfl) (by kernel_rfl) 6 ?_
  rintro _ ⟨k, ⟨n⟩, ⟨⟩⟩ W ⟨_, hn, _⟩
  have hn : 0 < n ∧ n ≤ 4611686018427387904 := hn
  have h1 : k.tmod n < n := Int.tmod_lt_of_pos k hn.1
  have h2 : -n < k.tmod n := Int.lt_tmod_of_pos k hn.1
  show ∃ orc y vc, _ ∧ _ ∧ y = placeV k n
  unfold placeV
  cases hc : decide (k.tmod n < 0) with
  | true => exact ⟨saysY [], k.tmod n + n, [WrapI (k.tmod n + n), decide (k.tmod n < 0) = true, n ≠ 0], by kernel_rfl, ⟨wI (by omega) (by omega), hc, by omega, trivial⟩, rfl⟩
  | false => exact ⟨saysY [(9, false)], k.tmod n, [decide (k.tmod n < 0) = false, n ≠ 0], by kernel_rfl, ⟨hc, by omega, trivial⟩, rfl⟩
section
variable (Pr : R8 32 → R8 32 → R8 32) (hc : Cut Pr)
include hc
theorem zK_cut : ∀ k, elR (zK Pr zR k).f 0 = (zK Pr zR k).f
  | 0 => by kernel_rfl
  | k + 1 => congrArg R8.f (hc _ _)
theorem lvG_rows (x : Lv) : ∀ k, (lvG Pr x k).rows = levL Pr zR x.rows k
  | 0 => rfl
  | k + 1 => by
    have ih := lvG_rows x k
    show _ = upL Pr (zK Pr zR k) (levL Pr zR x.rows k)
    rw [← ih]
    have hn : (lvG Pr x k).rows.length = (lvG Pr x k).n := rows_len _
    apply List.ext_getElem?
    intro j
    by_cases hj : j < ((lvG Pr x k).n + 1) / 2
    · have h1 : (lvG Pr x (k + 1)).rows.length = ((lvG Pr x k).n + 1) / 2 := rows_len _
      have h2 : (upL Pr (zK Pr zR k) (lvG Pr x k).rows).length = ((lvG Pr x k).n + 1) / 2 := by rw [upL_len, hn]
      have e1 := rows_at (lvG Pr x (k + 1)) j hj zR
      have e2 := upL_at Pr (zK Pr zR k) zR (lvG Pr x k).rows j (by rw [hn]; exact hj)
      rw [List.getD_eq_getElem?_getD, List.getElem?_eq_getElem (by omega)] at e1 e2
      rw [List.getElem?_eq_getElem (by omega), List.getElem?_eq_getElem (by omega)]
      congr 1
      refine (show (lvG Pr x (k + 1)).rows[j] = _ from e1).trans (Eq.trans ?_ (show (upL Pr (zK Pr zR k) (lvG Pr x k).rows)[j] = _ from e2).symm)
      have hup : ∀ i, i < 32 → (lvG Pr x (k + 1)).B (j * 32 + i) = (Pr ⟨elR (lvG Pr x k).B (two j * 32)⟩ ⟨riU (lvG Pr x k).B (lvG Pr x k).n (zK Pr zR k).f j⟩).f i := fun i hi => upB_at Pr _ _ _ _ _ _ hj hi
      rw [elR_congr (G := (Pr ⟨elR (lvG Pr x k).B (two j * 32)⟩ ⟨riU (lvG Pr x k).B (lvG Pr x k).n (zK Pr zR k).f j⟩).f) (k := 0) (fun i hi => by rw [hup i hi, Nat.zero_add]), hc]
      rw [rows_at _ _ (by omega), hn, two_eq]
      congr 1
      unfold riU
      by_cases hm : 2 * j + 1 < (lvG Pr x k).n
      · rw [if_pos hm, rows_at _ _ hm, two_eq]
        rw [decide_eq_true (show ((2 * j : Nat) : Int) + 1 < ((lvG Pr x k).n : Int) by omega)]
      · rw [if_neg hm, two_eq]
        rw [decide_eq_false (show ¬ ((2 * j : Nat) : Int) + 1 < ((lvG Pr x k).n : Int) by omega)]
    · rw [List.getElem?_eq_none (by rw [rows_len]; show ((lvG Pr x k).n + 1) / 2 ≤ j; omega), List.getElem?_eq_none (by rw [upL_len, hn]; omega)]
theorem sis_node (x : Lv) (hx : x.n < 1048576) (k : Nat) (y : UInt64) : (⟨sisB (lvG Pr x k).B (lvG Pr x k).n (zK Pr zR k).f y⟩ : R8 32) = nodeT Pr zR x.rows k (xorW y).toNat := by
  rw [← lev_node, ← lvG_rows Pr hc]
  have hn : (lvG Pr x k).n < 18446744073709551616 := by have := lvG_len Pr x k; omega
  unfold sisB
  rw [cvU_nat' hn]
  by_cases h : (xorW y).toNat < (lvG Pr x k).n
  · rw [decide_eq_true (show ((xorW y).toNat : Int) < ((lvG Pr x k).n : Int) by omega), rows_at _ _ h]
  · rw [decide_eq_false (show ¬ ((xorW y).toNat : Int) < ((lvG Pr x k).n : Int) by omega), List.getD_eq_getElem?_getD, List.getElem?_eq_none (by rw [rows_len]; omega)]
    rfl
theorem sis_cut (x : Lv) (k : Nat) (y : UInt64) : elR (sisB (lvG Pr x k).B (lvG Pr x k).n (zK Pr zR k).f y) 0 = sisB (lvG Pr x k).B (lvG Pr x k).n (zK Pr zR k).f y := by
  unfold sisB
  split
  · exact elR_elR _ _
  · exact zK_cut Pr hc k
omit hc in
theorem bF_at (x : Lv) (ix : UInt64) (D : Int) : ∀ (N k j : Nat), k < N → j < 32 → u8of (bF Pr x ix D N (k * 32 + j)) = sisB (lvG Pr x k).B (lvG Pr x k).n (zK Pr zR k).f (ixB ix D k) j
  | N + 1, k, j, hk, hj => by
    simp only [bF, catF, timesN_eq]
    by_cases h : k * 32 + j < N * (31 + 1)
    · have hb : (k * 32 + j).blt (N * (31 + 1)) = true := by rw [Nat.blt_eq]; exact h
      rw [hb]
      exact bF_at x ix D N k j (by omega) hj
    · have hb : (k * 32 + j).blt (N * (31 + 1)) = false := by rw [Bool.eq_false_iff, ne_eq, Nat.blt_eq]; exact h
      rw [hb]
      obtain rfl : k = N := by omega
      have e : 0 + (k * 32 + j - k * (31 + 1)) = j := by omega
      show u8of (cells32 _ (0 + (k * 32 + j - k * (31 + 1)))) = _
      rw [e, cells32_at _ _ hj]
      rfl
omit hc in
theorem mB_eq (l : List (R8 32)) {d : Nat} (h : d ≤ 62) : mB l (d : Int) = min l.length (2 ^ d) := by
  have eP : pow2W (((cvU (d : Int)).toNat : Int).toNat : Int) = (2 : Int) ^ d := by rw [cvU_nat (by omega), pow2W_eq (by omega)]
  have e : ((2 : Int) ^ d) = ((2 ^ d : Nat) : Int) := by rw [Int.natCast_pow]; rfl
  unfold mB
  rw [eP, e]
  by_cases h1 : (l.length : Int) > ((2 ^ d : Nat) : Int)
  · rw [decide_eq_true h1]
    show (((2 ^ d : Nat) : Int)).toNat - 0 = _
    rw [Int.toNat_natCast, Nat.sub_zero, Nat.min_eq_right (by omega)]
  · rw [decide_eq_false h1]
    show l.length = _
    rw [Nat.min_eq_left (by omega)]
/-- The chunks that a tree has room for. -/
def roomL (l : List (R8 32)) (d : Nat) : List (R8 32) := (nm l).take (2 ^ d)
theorem elL_branch {l : List (R8 32)} (hl : l.length < 1048576) (ix : UInt64) {d : Nat} (hd : d ≤ 62) {k : Nat} (hk : k < d) :
    elL (branchV Pr l ix d) k = (nodeT Pr zR (roomL l d) k ((ix.toNat % 2 ^ d / 2 ^ k) ^^^ 1)).f := by
  have hD : mmI (d : Int) = (d : Int) := by rw [mmI_eq]; omega
  have hm : mB l (d : Int) = min l.length (2 ^ d) := mB_eq l hd
  have hr : (Lv.mk (fun q => rsB l (0 + q)) (mB l (d : Int))).rows = roomL l d := by
    rw [start_rows l _ (by rw [hm]; exact Nat.min_le_left _ _), hm]
    unfold roomL
    rcases Nat.le_total l.length (2 ^ d) with h1 | h1
    · rw [Nat.min_eq_left h1, List.take_of_length_le (by rw [nm_len]; exact Nat.le_refl _), List.take_of_length_le (by rw [nm_len]; exact h1)]
    · rw [Nat.min_eq_right h1]
  have hs := sis_node Pr hc (Lv.mk (fun q => rsB l (0 + q)) (mB l (d : Int))) (by show mB l (d : Int) < _; rw [hm]; exact Nat.lt_of_le_of_lt (Nat.min_le_left _ _) hl) k (ixB ix (d : Int) k)
  rw [hr, xorW_nat, ixB_nat ix hd] at hs
  rw [← hs]
  show _ = sisB _ _ _ _
  rw [← sis_cut Pr hc]
  unfold elL branchV branchF
  rw [hD]
  refine elR_congr (fun j hj => ?_)
  have h1 : k * 32 + j < d * 32 := by omega
  rw [cutR_at _ _ _ _ h1, Nat.zero_add, Nat.zero_add, bF_at Pr _ _ _ _ _ _ hk hj]
omit hc in
theorem branchV_len (l : List (R8 32)) (ix : UInt64) (d : Nat) : (branchV Pr l ix d).length = d := by unfold branchV; rw [cutR_len]
end
end Go.Proofs.YtaloefkkllebeaaDoor
