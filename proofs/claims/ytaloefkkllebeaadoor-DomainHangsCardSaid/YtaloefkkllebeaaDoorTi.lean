/- Trees: level by level they are what they are from the root down. -/
import Derived.Test.YtaloefkkllebeaaDoorTh
import Derived.Test.YtaloefkkllebeaaDoorTc
import Derived.Test.YtaloefkkllebeaaDoorEn3
set_option linter.unusedVariables false
set_option linter.unusedSimpArgs false
set_option linter.unusedSectionVars false
set_option maxRecDepth 100000
namespace Go.Sh
section
variable {α : Type} (Pr : α → α → α)
/-- The roots of trees of noughts. -/
def zK (z : α) : Nat → α
  | 0 => z
  | k + 1 => Pr (zK z k) (zK z k)
/-- One level up. -/
def upL (z : α) : List α → List α
  | [] => []
  | [a] => [Pr a z]
  | a :: b :: l => Pr a b :: upL z l
def levL (z : α) (l : List α) : Nat → List α
  | 0 => l
  | k + 1 => upL Pr (zK Pr z k) (levL z l k)
/-- A tree's root, from the root down. -/
def treeT (z : α) : List α → Nat → α
  | l, 0 => l.getD 0 z
  | l, d + 1 => Pr (treeT z (l.take (2 ^ d)) d) (treeT z (l.drop (2 ^ d)) d)
variable (z : α)
theorem treeT_nil : ∀ d, treeT Pr z [] d = zK Pr z d
  | 0 => rfl
  | d + 1 => by
    show Pr (treeT Pr z (List.take (2 ^ d) []) d) (treeT Pr z (List.drop (2 ^ d) []) d) = _
    rw [List.take_nil, List.drop_nil, treeT_nil d]
    rfl
theorem upL_take : ∀ (m : Nat) (l : List α), upL Pr z (l.take (2 * m)) = (upL Pr z l).take m
  | 0, l => by simp [upL]
  | m + 1, [] => by simp [upL]
  | m + 1, [a] => by simp [upL, Nat.mul_add]
  | m + 1, a :: b :: l => by
    have e : 2 * (m + 1) = (2 * m + 1) + 1 := by omega
    rw [e, List.take_succ_cons, List.take_succ_cons]
    simp only [upL]
    rw [List.take_succ_cons, upL_take m l]
theorem upL_drop : ∀ (m : Nat) (l : List α), upL Pr z (l.drop (2 * m)) = (upL Pr z l).drop m
  | 0, l => by simp
  | m + 1, [] => by simp [upL]
  | m + 1, [a] => by simp [upL, Nat.mul_add]
  | m + 1, a :: b :: l => by
    have e : 2 * (m + 1) = (2 * m + 1) + 1 := by omega
    rw [e, List.drop_succ_cons, List.drop_succ_cons]
    simp only [upL]
    rw [List.drop_succ_cons, upL_drop m l]
theorem treeT_up : ∀ (d : Nat) (l : List α), treeT Pr z l (d + 1) = treeT Pr (Pr z z) (upL Pr z l) d
  | 0, [] => rfl
  | 0, [a] => rfl
  | 0, a :: b :: l => rfl
  | d + 1, l => by
    show Pr (treeT Pr z (l.take (2 ^ (d + 1))) (d + 1)) (treeT Pr z (l.drop (2 ^ (d + 1))) (d + 1)) = Pr _ _
    have e : 2 ^ (d + 1) = 2 * 2 ^ d := by rw [Nat.pow_succ, Nat.mul_comm]
    rw [treeT_up d, treeT_up d, e, upL_take, upL_drop]
theorem zK_shift : ∀ k, zK Pr (Pr z z) k = zK Pr z (k + 1)
  | 0 => rfl
  | k + 1 => by show Pr (zK Pr (Pr z z) k) (zK Pr (Pr z z) k) = _; rw [zK_shift k]; rfl
theorem levL_shift (l : List α) : ∀ k, levL Pr (Pr z z) (upL Pr z l) k = levL Pr z l (k + 1)
  | 0 => rfl
  | k + 1 => by show upL Pr (zK Pr (Pr z z) k) (levL Pr (Pr z z) (upL Pr z l) k) = _; rw [levL_shift l k, zK_shift]; rfl
theorem treeT_take : ∀ (d n : Nat) (l : List α), 2 ^ d ≤ n → treeT Pr z (l.take n) d = treeT Pr z l d
  | 0, n, l, h => by
    cases l with
    | nil => simp
    | cons a l => cases n with
      | zero => simp at h
      | succ n => rfl
  | d + 1, n, l, h => by
    have e : 2 ^ (d + 1) = 2 ^ d + 2 ^ d := by rw [Nat.pow_succ]; omega
    show Pr _ _ = Pr _ _
    rw [List.take_take, List.drop_take, Nat.min_eq_left (by omega), treeT_take d (n - 2 ^ d) _ (by omega)]
/-- A tree's node: so high, at that place. -/
def nodeT (l : List α) (k j : Nat) : α := treeT Pr z (l.drop (j * 2 ^ k)) k
theorem lev_node : ∀ (k : Nat) (z : α) (l : List α) (j : Nat), (levL Pr z l k).getD j (zK Pr z k) = nodeT Pr z l k j
  | 0, z, l, j => by
    show l.getD j z = (l.drop (j * 1)).getD 0 z
    rw [Nat.mul_one, List.getD_eq_getElem?_getD, List.getD_eq_getElem?_getD, List.getElem?_drop, Nat.add_zero]
  | k + 1, z, l, j => by
    rw [← levL_shift, ← zK_shift, lev_node k]
    unfold nodeT
    have e : j * 2 ^ (k + 1) = 2 * (j * 2 ^ k) := by rw [Nat.pow_succ, ← Nat.mul_assoc, Nat.mul_comm]
    rw [e, treeT_up, upL_drop]
theorem root_lev (l : List α) (d : Nat) : (levL Pr z l d).getD 0 (zK Pr z d) = treeT Pr z l d := by
  rw [lev_node]
  unfold nodeT
  rw [Nat.zero_mul, List.drop_zero]
theorem node_up (l : List α) (k j : Nat) : nodeT Pr z l (k + 1) j = Pr (nodeT Pr z l k (2 * j)) (nodeT Pr z l k (2 * j + 1)) := by
  unfold nodeT
  show Pr _ _ = _
  rw [treeT_take _ _ _ _ _ (Nat.le_refl _), List.drop_drop]
  have e : j * 2 ^ (k + 1) = 2 * j * 2 ^ k := by rw [Nat.pow_succ, Nat.mul_comm (2 ^ k) 2, ← Nat.mul_assoc, Nat.mul_comm j 2]
  rw [e, Nat.add_mul, Nat.one_mul]
theorem treeT_congr : ∀ (d : Nat) (l l' : List α), (∀ i, l.getD i z = l'.getD i z) → treeT Pr z l d = treeT Pr z l' d
  | 0, l, l', h => h 0
  | d + 1, l, l', h => by
    show Pr _ _ = Pr _ _
    rw [treeT_take _ _ _ _ _ (Nat.le_refl _), treeT_take _ _ _ _ _ (Nat.le_refl _), treeT_congr d l l' h, treeT_congr d (l.drop (2 ^ d)) (l'.drop (2 ^ d)) (fun i => by
      have := h (2 ^ d + i)
      simp only [List.getD_eq_getElem?_getD, List.getElem?_drop] at this ⊢
      exact this)]
theorem upL_len : ∀ l : List α, (upL Pr z l).length = (l.length + 1) / 2
  | [] => by simp [upL]
  | [a] => by simp [upL]
  | a :: b :: l => by
    simp only [upL, List.length_cons, upL_len l]
    omega
theorem upL_at (o : α) : ∀ (l : List α) (j : Nat), j < (l.length + 1) / 2 → (upL Pr z l).getD j o = Pr (l.getD (2 * j) o) (if 2 * j + 1 < l.length then l.getD (2 * j + 1) o else z)
  | [], j, h => by simp at h
  | [a], 0, h => rfl
  | [a], j + 1, h => by simp at h
  | a :: b :: l, 0, h => by simp [upL]
  | a :: b :: l, j + 1, h => by
    have e : 2 * (j + 1) = (2 * j) + 1 + 1 := by omega
    simp only [upL]
    rw [List.getD_cons_succ, e, List.getD_cons_succ, List.getD_cons_succ, upL_at o l j (by simp at h; omega), List.getD_cons_succ, List.getD_cons_succ]
    have e2 : (2 * j + 1 + 1 + 1 < (a :: b :: l).length) = (2 * j + 1 < l.length) := by simp
    simp only [e2]
end
end Go.Sh

/- Slices of rows as a law's arguments; trees of noughts. -/
namespace Go.Sh
instance (n : Nat) : OpensArg A (Rs n) where
  shape := .rows n
  opens W v h := by
    obtain ⟨f, k, g, h1, h2, h3, rfl⟩ := h
    refine ⟨g, ⟨cutR n f k⟩, ⟨by rw [cutR_len]; exact h1, h2, fun a ha i hi => ?_⟩, by show spotVal k g = spotVal (cutR n f k).length g; rw [cutR_len]⟩
    rw [cutR_len] at hi
    rw [h3 a ha i hi, cutR_at _ _ _ _ hi]
end Go.Sh
namespace Go.Proofs.YtaloefkkllebeaaDoor
open Go Go.Sh
section
variable {Pr : R8 32 → R8 32 → R8 32}
def zeS (d : Int) (v : Nat → UInt8) (i : Nat) : St A :=
  ⟨slots 0 14 [(0, .val false [.n .i64 d]), (2, .val false [.p 0 0]), (3, .val false [.p 1 0]), (6, .val false [.n .i64 (mmI d)]), (7, .val false [.n .i64 (i : Int)])],
    [some ⟨zer8 32, 25, false⟩, some ⟨[.a (.w8 32 v)], 25, false⟩], 0, [], []⟩
def zeN (d : Int) : Nat := (mmI d).toNat
theorem zeN_eq (d : Int) : (zeN d : Int) = mmI d := by
  unfold zeN
  rw [mmI_eq]
  omega
section
variable (ht : TblOK Tryd.prog (tblSp' Pr)) {W : World} (hr : RoundsIn W.cell?) (d : Int) {c : Cfg A} (e1 : c.P = Tryd.prog) (e2 : c.gl = (fun _ => none)) (e3 : c.old = W.cell?) (e4 : c.ys = [])
include ht hr e1 e2 e3 e4
theorem zeS_one (v : Nat → UInt8) (i : Nat) (hi : i < zeN d) : Round c (loopNo Tryd.f55 3) (zeS d v i) .normal (zeS d (Pr ⟨v⟩ ⟨v⟩).f (i + 1)) := by
  have he := zeN_eq d
  have hm := mmI_eq d
  exact Round.of0 ht (says [(8, true)]) 6 [WrapI ((i : Int) + 1), RoundsIn W.cell?, decide ((i : Int) < mmI d) = true] (by kernel_rfl)
    ⟨wI (by omega) (by omega), hr, decide_eq_true (by omega), trivial⟩ (by kernel_rfl) (by kernel_rfl) e1 e2 e3 e4
theorem zeS_end (v : Nat → UInt8) : Round c (loopNo Tryd.f55 3) (zeS d v (zeN d)) (.exit 0) (zeS d v (zeN d)) := by
  have he := zeN_eq d
  exact Round.of0 ht (says [(8, false)]) 6 [decide ((zeN d : Int) < mmI d) = false] (by kernel_rfl)
    ⟨decide_eq_false (by omega), trivial⟩ (by kernel_rfl) (by kernel_rfl) e1 e2 e3 e4
end
theorem zero_of (ht : TblOK Tryd.prog (tblSp' Pr)) : Computes A Tryd.prog 55 (fun x : GA (Int × Unit) => zK Pr zR (zeN x.x.1)) := by
  refine computes_of_runW ht (ITblOK.nil _) Tryd.func55 (by kernel_rfl) (by kernel_rfl) 6 ?_
  rintro _ ⟨⟨d, ⟨⟩⟩⟩ W ⟨hr, _⟩
  have hs : SoundFor Tryd.prog W.cell? [] (.loop (loopNo Tryd.f55 3)) (zeS d zR.f 0) (.exit 0) (zeS d (zK Pr zR (zeN d)).f (zeN d)) := fun c q1 q2 q3 q4 =>
    loopAt (c := c) (inv := fun i => zeS d (zK Pr zR i).f i) (N := zeN d) (by simp) (fun i hi => zeS_one ht hr d q1 q2 q3 q4 _ i hi) (zeS_end ht hr d q1 q2 q3 q4 _)
  revert hs
  show SoundFor _ _ _ _ _ _ (zeS d (zK Pr zR (zeN d)).f (zeN d)) → _
  show _ → ∃ orc lp y vc, _ ∧ _ ∧ y = zK Pr zR (zeN d) ∧ _
  generalize zK Pr zR (zeN d) = w
  intro hs
  refine ⟨fun _ _ => .keep, lps [(3, zeS d zR.f 0, .exit 0, zeS d w.f (zeN d))], w, [ToldIs (zeS d zR.f 0)], by kernel_rfl, ⟨toldIs _, trivial⟩, rfl, fun body hb => ?_⟩
  obtain rfl := Option.some.inj hb
  exact LoopsFor.cons (by kernel_rfl) hs LoopsFor.nil
end
theorem zero_ok : Computes A Tryd.prog 55 (fun x : GA (Int × Unit) => zK pairR8 zR (zeN x.x.1)) := zero_of (.cons pair_ok.row (.nil _))
end Go.Proofs.YtaloefkkllebeaaDoor

/- Trees: the small tree's rows. -/
namespace Go.Proofs.YtaloefkkllebeaaDoor
open Go Go.Sh
noncomputable def depthRow : Row A := rowIn Tryd.prog [] [] (fun _ _ => .keep) 80 102 Tryd.f102
noncomputable def levelsRow : Row A := rowIn Tryd.prog [] [] (fun _ _ => .keep) 4 101 Tryd.f101
def orL : Nat → Nat → Dec := fun _ t => match Nat.beq t 6 with | true => .grow 25 32 | false => .eval
def orB : Nat → Nat → Dec := fun _ t => match Nat.beq t 7 with | true => .grow 25 32 | false => .eval
noncomputable def levIt (Pr : R8 32 → R8 32 → R8 32) : IRow A := iter Tryd.prog (tblSp' Pr) [] orL 40 123 Tryd.f123
noncomputable def rootRow (Pr : R8 32 → R8 32 → R8 32) : Row A := rowIn Tryd.prog [depthRow, levelsRow] [levIt Pr] (fun _ _ => .eval) 20 53 Tryd.f53
noncomputable def branchRow (Pr : R8 32 → R8 32 → R8 32) : Row A := rowIn Tryd.prog [levelsRow] [levIt Pr] orB 20 56 Tryd.f56
theorem depthRow_ok : RowOK Tryd.prog depthRow := rowIn_ok (TblOK.nil _) (ITblOK.nil _) _ 80 Tryd.func102 (by kernel_rfl) (by kernel_rfl)
theorem levelsRow_ok : RowOK Tryd.prog levelsRow := rowIn_ok (TblOK.nil _) (ITblOK.nil _) _ 4 Tryd.func101 (by kernel_rfl) (by kernel_rfl)
section
variable {Pr : R8 32 → R8 32 → R8 32} (ht : TblOK Tryd.prog (tblSp' Pr))
include ht
theorem levIt_ok : ITblOK Tryd.prog [levIt Pr] := .cons (iter_ok ht (ITblOK.nil _) _ 40 Tryd.func123 (by kernel_rfl) (by kernel_rfl)) (ITblOK.nil _)
theorem rootRow_ok : RowOK Tryd.prog (rootRow Pr) := rowIn_ok (.cons depthRow_ok (.cons levelsRow_ok (TblOK.nil _))) (levIt_ok ht) _ 20 Tryd.func53 (by kernel_rfl) (by kernel_rfl)
theorem branchRow_ok : RowOK Tryd.prog (branchRow Pr) := rowIn_ok (.cons levelsRow_ok (TblOK.nil _)) (levIt_ok ht) _ 20 Tryd.func56 (by kernel_rfl) (by kernel_rfl)
end
noncomputable def tblK8 (Pr : R8 32 → R8 32 → R8 32) (VQ : (Nat → UInt8) → (Nat → UInt8) → List (R8 32) → UInt64 → Bool) (Z : Int → R8 32) : List (Row A) :=
  [rootRow Pr, branchRow Pr, rowOf A 59 (fun x : GA (R8 32 × Rt 32 × UInt64 × R8 32 × Unit) => VQ x.x.1.f x.x.2.2.2.1.f x.x.2.1.l x.x.2.2.1), rowOf A 55 (fun x : GA (Int × Unit) => Z x.x.1)]
end Go.Proofs.YtaloefkkllebeaaDoor
namespace Go.Sh
def aL32 (n : Nat) : List UInt8 := UInt8.ofNat n :: List.replicate 31 (UInt8.ofNat 0)
def aF32 (n : Nat) : Nat → UInt8 := pickN 0 (aL32 n)
def cells32 (f : Nat → UInt8) : Nat → A := fun q => (((List.range 32).map fun i => (At.u8 (f i) : A))[q]?).getD (At.u8 (f 0))
/-- The small tree's branch, and its root. -/
def brK : List (R8 32) := cutR 32 (fun j => u8of (catF (fun _ => Atom.dummy) (timesN 0 (31 + 1)) (cells32 (aF32 1)) 0 (0 + j))) (0 + 1)
def rtK (Pr : R8 32 → R8 32 → R8 32) : Nat → UInt8 := pickN 0 ((List.range 32).map (Pr ⟨aF32 1⟩ ⟨aF32 2⟩).f)
def sameL (a b : List UInt8) : Bool := match a, b with
  | [x], [y] => ((x.toNat : Int) == (y.toNat : Int))
  | x :: a, y :: b => ((x.toNat : Int) == (y.toNat : Int)) && sameL a b
  | _, _ => true
end Go.Sh
namespace Go.Proofs.YtaloefkkllebeaaDoor
open Go Go.Sh
theorem known18_of (Pr : R8 32 → R8 32 → R8 32) (VQ : (Nat → UInt8) → (Nat → UInt8) → List (R8 32) → UInt64 → Bool) (Z : Int → R8 32) (ht : TblOK Tryd.prog (tblK8 Pr VQ Z))
    (hz : ((((Z 1).f 0).toNat : Int) == 245) = true) (h3 : VQ (aF32 2) (rtK Pr) brK (UInt64.ofNat 3) = false) (h1 : VQ (aF32 1) (rtK Pr) brK (UInt64.ofNat 1) = false) (h2 : VQ (aF32 2) (rtK Pr) brK (UInt64.ofNat 1) = true)
    (hu : ∀ j, j < (0 + 1) * 32 → isU8 (catF (fun _ => Atom.dummy) (timesN 0 (31 + 1)) (cells32 (aF32 1)) 0 (0 + j)) = true) :
    Computes A Tryd.prog 51 (fun _ : GA Unit => true) := by
  refine computes_of_runT Tryd.func51 (by kernel_rfl) (by kernel_rfl) 8 ?_
  rintro _ ⟨⟨⟩⟩ W ⟨hr, _⟩
  have hb : brK.length < 1048576 := by unfold brK; rw [cutR_len]; decide
  have hq : sameL (aL32 1) (aL32 1) = true := by decide
  have gr : (0 : Nat) = 0 ∧ timesN 0 (31 + 1) = 0 ∧ Bears (0 + 1) 32 := ⟨rfl, rfl, by unfold Bears; decide⟩
  have b0 : Bears 0 32 := by unfold Bears; decide
  have b2 : Bears 2 32 := by unfold Bears; decide
  have i0 : IX 0 2 := ⟨by decide, by decide⟩
  have i1 : IX 1 2 := ⟨by decide, by decide⟩
  have i9 : IX 0 1 := ⟨by decide, by decide⟩
  exact ⟨_, _, ht, ITblOK.nil _, saysY [(64, false), (71, false)], noLoop, true,
    [((((Z 1).f 0).toNat : Int) == 245) = true, RoundsIn W.cell?, VQ (aF32 2) (rtK Pr) brK (UInt64.ofNat 3) = false, RoundsIn W.cell?, brK.length < 1048576, ∀ j, j < (0 + 1) * 32 → isU8 (catF (fun _ => Atom.dummy) (timesN 0 (31 + 1)) (cells32 (aF32 1)) 0 (0 + j)) = true,
      VQ (aF32 1) (rtK Pr) brK (UInt64.ofNat 1) = false, RoundsIn W.cell?, brK.length < 1048576, ∀ j, j < (0 + 1) * 32 → isU8 (catF (fun _ => Atom.dummy) (timesN 0 (31 + 1)) (cells32 (aF32 1)) 0 (0 + j)) = true,
      VQ (aF32 2) (rtK Pr) brK (UInt64.ofNat 1) = true, RoundsIn W.cell?, brK.length < 1048576, ∀ j, j < (0 + 1) * 32 → isU8 (catF (fun _ => Atom.dummy) (timesN 0 (31 + 1)) (cells32 (aF32 1)) 0 (0 + j)) = true,
      sameL (aL32 1) (aL32 1) = true, IX 0 1, ((((0 + 1 : Nat) : Int) == 1) = true), RoundsIn W.cell?, Bears 0 32, RoundsIn W.cell?, (0 : Nat) = 0 ∧ timesN 0 (31 + 1) = 0 ∧ Bears (0 + 1) 32, RoundsIn W.cell?, IX 0 2, IX 1 2, (0 : Nat) = 0 ∧ timesN 0 (31 + 1) = 0 ∧ Bears (0 + 1) 32, IX 0 2, Bears 2 32,
      RoundsIn W.cell?, (0 : Nat) = 0 ∧ timesN 0 (31 + 1) = 0 ∧ Bears (0 + 1) 32, RoundsIn W.cell?, IX 0 1, IX 0 1, RoundsIn W.cell?, (0 : Nat) = 0 ∧ timesN 0 (31 + 1) = 0 ∧ Bears (0 + 1) 32, RoundsIn W.cell?, IX 0 2, IX 1 2, IX 0 2, Bears 2 32], by kernel_rfl,
    ⟨hz, hr, h3, hr, hb, hu, h1, hr, hb, hu, h2, hr, hb, hu, hq, i9, rfl, hr, b0, hr, gr, hr, i0, i1, gr, i0, b2, hr, gr, hr, i9, i9, hr, gr, hr, i0, i1, i0, b2, trivial⟩, rfl, fun body _ => loopsFor_none⟩
end Go.Proofs.YtaloefkkllebeaaDoor

/- Trees: the small tree; the law of branches that are taken. -/
namespace Go.Proofs.YtaloefkkllebeaaDoor
open Go Go.Sh
theorem zero1_first : ((((zK pairR8 zR (zeN 1)).f 0).toNat : Int) == 245) = true := by kernel_rfl
theorem brK_cells (j : Nat) (h : j < (0 + 1) * 32) : isU8 (catF (fun _ => Atom.dummy) (timesN 0 (31 + 1)) (cells32 (aF32 1)) 0 (0 + j)) = true := by
  match j, h with
  | 0, _ | 1, _ | 2, _ | 3, _ | 4, _ | 5, _ | 6, _ | 7, _ | 8, _ | 9, _ | 10, _ | 11, _ | 12, _ | 13, _ | 14, _ | 15, _ | 16, _ | 17, _ | 18, _ | 19, _ | 20, _ | 21, _ | 22, _ | 23, _ | 24, _ | 25, _ | 26, _ | 27, _ | 28, _ | 29, _ | 30, _ | 31, _ => rfl
  | j + 32, h => exact absurd h (by omega)
theorem merK_3 : merQ pairR8 (aF32 2) (rtK pairR8) brK (UInt64.ofNat 3) = false := by kernel_rfl
theorem merK_1 : merQ pairR8 (aF32 1) (rtK pairR8) brK (UInt64.ofNat 1) = false := by kernel_rfl
theorem merK_2 : merQ pairR8 (aF32 2) (rtK pairR8) brK (UInt64.ofNat 1) = true := by
  have h : ∀ Pr : R8 32 → R8 32 → R8 32, merQ Pr (aF32 2) (rtK Pr) brK (UInt64.ofNat 1) = eqB (Pr ⟨aF32 1⟩ ⟨aF32 2⟩).f (pickN 0 ((List.range 32).map (Pr ⟨aF32 1⟩ ⟨aF32 2⟩).f)) 0 32 := fun Pr => by kernel_rfl
  rw [h]
  generalize (pairR8 ⟨aF32 1⟩ ⟨aF32 2⟩).f = w
  have e : eqB w (pickN 0 ((List.range 32).map w)) 0 32 = eqB w w 0 32 := by kernel_rfl
  rw [e, eqB_self]
theorem known18_ok : Computes A Tryd.prog 51 (fun _ : GA Unit => true) :=
  known18_of pairR8 (merQ pairR8) (fun n => zK pairR8 zR (zeN n)) (.cons (rootRow_ok (.cons pair_ok.row (.nil _))) (.cons (branchRow_ok (.cons pair_ok.row (.nil _))) (.cons verify_ok.row (.cons zero_ok.row (.nil _))))) zero1_first merK_3 merK_1 merK_2 brK_cells
end Go.Proofs.YtaloefkkllebeaaDoor
