/- Trees: level by level they are what they are from the root down. -/
import Derived.Test.YtaloefkkllebeaaDoorSh5
set_option linter.unusedVariables false
set_option linter.unusedSimpArgs false
set_option linter.unusedSectionVars false
namespace Go.Sh
section
variable {α : Type} (Pr : α → α → α)
/-- The roots of trees of noughts. -/
def zK (z : α) : Nat → α
  | 0 => z
  | k + 1 => Pr (zK z k) (zK z k)
/-- One level up. -/
def upL (z : α) : List α → List α
  | [] => []
  | [a] => [Pr a z]
  | a :: b :: l => Pr a b :: upL z l
def levL (z : α) (l : List α) : Nat → List α
  | 0 => l
  | k + 1 => upL Pr (zK Pr z k) (levL z l k)
/-- A tree's root, from the root down. -/
def treeT (z : α) : List α → Nat → α
  | l, 0 => l.getD 0 z
  | l, d + 1 => Pr (treeT z (l.take (2 ^ d)) d) (treeT z (l.drop (2 ^ d)) d)
variable (z : α)
theorem treeT_nil : ∀ d, treeT Pr z [] d = zK Pr z d
  | 0 => rfl
  | d + 1 => by
    show Pr (treeT Pr z (List.take (2 ^ d) []) d) (treeT Pr z (List.drop (2 ^ d) []) d) = _
    rw [List.take_nil, List.drop_nil, treeT_nil d]
    rfl
theorem upL_take : ∀ (m : Nat) (l : List α), upL Pr z (l.take (2 * m)) = (upL Pr z l).take m
  | 0, l => by simp [upL]
  | m + 1, [] => by simp [upL]
  | m + 1, [a] => by simp [upL, Nat.mul_add]
  | m + 1, a :: b :: l => by
    have e : 2 * (m + 1) = (2 * m + 1) + 1 := by omega
    rw [e, List.take_succ_cons, List.take_succ_cons]
    simp only [upL]
    rw [List.take_succ_cons, upL_take m l]
theorem upL_drop : ∀ (m : Nat) (l : List α), upL Pr z (l.drop (2 * m)) = (upL Pr z l).drop m
  | 0, l => by simp
  | m + 1, [] => by simp [upL]
  | m + 1, [a] => by simp [upL, Nat.mul_add]
  | m + 1, a :: b :: l => by
    have e : 2 * (m + 1) = (2 * m + 1) + 1 := by omega
    rw [e, List.drop_succ_cons, List.drop_succ_cons]
    simp only [upL]
    rw [List.drop_succ_cons, upL_drop m l]
theorem treeT_up : ∀ (d : Nat) (l : List α), treeT Pr z l (d + 1) = treeT Pr (Pr z z) (upL Pr z l) d
  | 0, [] => rfl
  | 0, [a] => rfl
  | 0, a :: b :: l => rfl
  | d + 1, l => by
    show Pr (treeT Pr z (l.take (2 ^ (d + 1))) (d + 1)) (treeT Pr z (l.drop (2 ^ (d + 1))) (d + 1)) = Pr _ _
    have e : 2 ^ (d + 1) = 2 * 2 ^ d := by rw [Nat.pow_succ, Nat.mul_comm]
    rw [treeT_up d, treeT_up d, e, upL_take, upL_drop]
theorem zK_shift : ∀ k, zK Pr (Pr z z) k = zK Pr z (k + 1)
  | 0 => rfl
  | k + 1 => by show Pr (zK Pr (Pr z z) k) (zK Pr (Pr z z) k) = _; rw [zK_shift k]; rfl
theorem levL_shift (l : List α) : ∀ k, levL Pr (Pr z z) (upL Pr z l) k = levL Pr z l (k + 1)
  | 0 => rfl
  | k + 1 => by show upL Pr (zK Pr (Pr z z) k) (levL Pr (Pr z z) (upL Pr z l) k) = _; rw [levL_shift l k, zK_shift]; rfl
theorem treeT_take : ∀ (d n : Nat) (l : List α), 2 ^ d ≤ n → treeT Pr z (l.take n) d = treeT Pr z l d
  | 0, n, l, h => by
    cases l with
    | nil => simp
    | cons a l => cases n with
      | zero => simp at h
      | succ n => rfl
  | d + 1, n, l, h => by
    have e : 2 ^ (d + 1) = 2 ^ d + 2 ^ d := by rw [Nat.pow_succ]; omega
    show Pr _ _ = Pr _ _
    rw [List.take_take, List.drop_take, Nat.min_eq_left (by omega), treeT_take d (n - 2 ^ d) _ (by omega)]
/-- A tree's node: so high, at that place. -/
def nodeT (l : List α) (k j : Nat) : α := treeT Pr z (l.drop (j * 2 ^ k)) k
theorem lev_node : ∀ (k : Nat) (z : α) (l : List α) (j : Nat), (levL Pr z l k).getD j (zK Pr z k) = nodeT Pr z l k j
  | 0, z, l, j => by
    show l.getD j z = (l.drop (j * 1)).getD 0 z
    rw [Nat.mul_one, List.getD_eq_getElem?_getD, List.getD_eq_getElem?_getD, List.getElem?_drop, Nat.add_zero]
  | k + 1, z, l, j => by
    rw [← levL_shift, ← zK_shift, lev_node k]
    unfold nodeT
    have e : j * 2 ^ (k + 1) = 2 * (j * 2 ^ k) := by rw [Nat.pow_succ, ← Nat.mul_assoc, Nat.mul_comm]
    rw [e, treeT_up, upL_drop]
theorem root_lev (l : List α) (d : Nat) : (levL Pr z l d).getD 0 (zK Pr z d) = treeT Pr z l d := by
  rw [lev_node]
  unfold nodeT
  rw [Nat.zero_mul, List.drop_zero]
theorem node_up (l : List α) (k j : Nat) : nodeT Pr z l (k + 1) j = Pr (nodeT Pr z l k (2 * j)) (nodeT Pr z l k (2 * j + 1)) := by
  unfold nodeT
  show Pr _ _ = _
  rw [treeT_take _ _ _ _ _ (Nat.le_refl _), List.drop_drop]
  have e : j * 2 ^ (k + 1) = 2 * j * 2 ^ k := by rw [Nat.pow_succ, Nat.mul_comm (2 ^ k) 2, ← Nat.mul_assoc, Nat.mul_comm j 2]
  rw [e, Nat.add_mul, Nat.one_mul]
theorem treeT_congr : ∀ (d : Nat) (l l' : List α), (∀ i, l.getD i z = l'.getD i z) → treeT Pr z l d = treeT Pr z l' d
  | 0, l, l', h => h 0
  | d + 1, l, l', h => by
    show Pr _ _ = Pr _ _
    rw [treeT_take _ _ _ _ _ (Nat.le_refl _), treeT_take _ _ _ _ _ (Nat.le_refl _), treeT_congr d l l' h, treeT_congr d (l.drop (2 ^ d)) (l'.drop (2 ^ d)) (fun i => by
      have := h (2 ^ d + i)
      simp only [List.getD_eq_getElem?_getD, List.getElem?_drop] at this ⊢
      exact this)]
theorem upL_len : ∀ l : List α, (upL Pr z l).length = (l.length + 1) / 2
  | [] => by simp [upL]
  | [a] => by simp [upL]
  | a :: b :: l => by
    simp only [upL, List.length_cons, upL_len l]
    omega
theorem upL_at (o : α) : ∀ (l : List α) (j : Nat), j < (l.length + 1) / 2 → (upL Pr z l).getD j o = Pr (l.getD (2 * j) o) (if 2 * j + 1 < l.length then l.getD (2 * j + 1) o else z)
  | [], j, h => by simp at h
  | [a], 0, h => rfl
  | [a], j + 1, h => by simp at h
  | a :: b :: l, 0, h => by simp [upL]
  | a :: b :: l, j + 1, h => by
    have e : 2 * (j + 1) = (2 * j) + 1 + 1 := by omega
    simp only [upL]
    rw [List.getD_cons_succ, e, List.getD_cons_succ, List.getD_cons_succ, upL_at o l j (by simp at h; omega), List.getD_cons_succ, List.getD_cons_succ]
    have e2 : (2 * j + 1 + 1 + 1 < (a :: b :: l).length) = (2 * j + 1 < l.length) := by simp
    simp only [e2]
end
end Go.Sh
