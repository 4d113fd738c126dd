/- Trees: a branch of a part of a tree; what the law asks. -/
import Derived.Test.YtaloefkkllebeaaDoorTp
import Derived.Test.YtaloefkkllebeaaDoorSm3
import Derived.Test.YtaloefkkllebeaaDoorSo1
import Derived.Test.YtaloefkkllebeaaDoorTl
set_option linter.unusedVariables false
set_option linter.unusedSimpArgs false
set_option linter.unusedSectionVars false
set_option maxRecDepth 100000
namespace Go.Proofs.YtaloefkkllebeaaDoor
open Go Go.Sh
/-- A row's cells. -/
def litU (a : Nat → UInt8) (j : Nat) : A := ((lits a)[j]?).getD (.u8 (a 0))
theorem litU_at (a : Nat → UInt8) (j : Nat) (h : j < 32) : litU a j = .u8 (a j) := by
  unfold litU lits
  rw [List.getElem?_map, List.getElem?_range h]
  rfl
theorem litU_u8 (a : Nat → UInt8) (j : Nat) : isU8 (litU a j) = true := by
  unfold litU
  cases h : (lits a)[j]? with
  | none => rfl
  | some x => exact lits_u8 a x (List.mem_of_getElem? h)
section
variable (Pr : R8 32 → R8 32 → R8 32)
theorem node_congr (C D : List (R8 32)) (k j j' : Nat) (h : ∀ i, i < 2 ^ k → C.getD (j * 2 ^ k + i) zR = D.getD (j' * 2 ^ k + i) zR) : nodeT Pr zR C k j = nodeT Pr zR D k j' := by
  unfold nodeT
  rw [← treeT_take Pr zR k (2 ^ k) (C.drop (j * 2 ^ k)) (Nat.le_refl _), ← treeT_take Pr zR k (2 ^ k) (D.drop (j' * 2 ^ k)) (Nat.le_refl _)]
  refine treeT_congr Pr zR k _ _ (fun i => ?_)
  by_cases hi : i < 2 ^ k
  · have := h i hi
    simp only [List.getD_eq_getElem?_getD, List.getElem?_take, if_pos hi, List.getElem?_drop] at this ⊢
    exact this
  · simp only [List.getD_eq_getElem?_getD, List.getElem?_take, if_neg hi]
theorem room_at (l : List (R8 32)) (d i : Nat) (h : i < 2 ^ d) : (roomL l d).getD i zR = (nm l).getD i zR := by
  unfold roomL
  simp only [List.getD_eq_getElem?_getD, List.getElem?_take, if_pos h]
theorem xor_low (q P : Nat) (h : q < 2 * P) : q ^^^ 1 < 2 * P := by rw [xor1]; split <;> omega
theorem xor_high (q P : Nat) : (2 * P + q) ^^^ 1 = 2 * P + (q ^^^ 1) := by
  rw [xor1, xor1]
  have : (2 * P + q) % 2 = q % 2 := by omega
  rw [this]
  split <;> omega
theorem sis_low {e k i r : Nat} (hk : k < e) (hi : i < 2 ^ e) (hr : r < 2 ^ k) : ((i / 2 ^ k) ^^^ 1) * 2 ^ k + r < 2 ^ e := by
  have e1 : (2 : Nat) ^ e = 2 * 2 ^ (e - k - 1) * 2 ^ k := by
    have : e = (e - k - 1) + 1 + k := by omega
    conv => lhs; rw [this, Nat.pow_add, Nat.pow_succ, Nat.mul_comm (2 ^ (e - k - 1)) 2]
  have hq : i / 2 ^ k < 2 * 2 ^ (e - k - 1) := (Nat.div_lt_iff_lt_mul (Nat.pow_pos (by decide))).2 (by rw [← e1]; exact hi)
  have hx := xor_low _ _ hq
  have h1 : ((i / 2 ^ k) ^^^ 1) * 2 ^ k + r < (((i / 2 ^ k) ^^^ 1) + 1) * 2 ^ k := by rw [Nat.add_mul, Nat.one_mul]; omega
  rw [e1]
  exact Nat.lt_of_lt_of_le h1 (Nat.mul_le_mul_right _ hx)
theorem sis_high {e k i : Nat} (hk : k < e) : (((2 ^ e + i) / 2 ^ k) ^^^ 1) * 2 ^ k = 2 ^ e + ((i / 2 ^ k) ^^^ 1) * 2 ^ k := by
  have e1 : (2 : Nat) ^ e = 2 ^ k * (2 * 2 ^ (e - k - 1)) := by
    have : e = k + ((e - k - 1) + 1) := by omega
    conv => lhs; rw [this, Nat.pow_add, Nat.pow_succ, Nat.mul_comm (2 ^ (e - k - 1)) 2]
  have h1 : (2 ^ e + i) / 2 ^ k = 2 * 2 ^ (e - k - 1) + i / 2 ^ k := by rw [e1, Nat.mul_add_div (Nat.pow_pos (by decide))]
  have h2 := xor_high (i / 2 ^ k) (2 ^ (e - k - 1))
  rw [h1, h2, Nat.add_mul, e1, Nat.mul_comm (2 * 2 ^ (e - k - 1))]
/-- Half a tree's branches are the whole's but for the last row. -/
theorem under_nodes {A B C : List (R8 32)} {e : Nat} (hC1 : ∀ i, i < 2 ^ e → (nm C).getD i zR = (nm A).getD i zR) (hC2 : ∀ i, i < 2 ^ e → (nm C).getD (2 ^ e + i) zR = (nm B).getD i zR) {i : Nat} (hi : i < 2 ^ e) :
    (∀ k, k < e → nodeT Pr zR (roomL C (e + 1)) k ((i / 2 ^ k) ^^^ 1) = nodeT Pr zR (roomL A e) k ((i / 2 ^ k) ^^^ 1)) ∧ (∀ k, k < e → nodeT Pr zR (roomL C (e + 1)) k (((2 ^ e + i) / 2 ^ k) ^^^ 1) = nodeT Pr zR (roomL B e) k ((i / 2 ^ k) ^^^ 1)) ∧
    nodeT Pr zR (roomL C (e + 1)) e ((i / 2 ^ e) ^^^ 1) = treeN Pr B e ∧ nodeT Pr zR (roomL C (e + 1)) e (((2 ^ e + i) / 2 ^ e) ^^^ 1) = treeN Pr A e := by
  have hp : 0 < 2 ^ e := Nat.pow_pos (by decide)
  have hpp : (2 : Nat) ^ (e + 1) = 2 ^ e + 2 ^ e := by rw [Nat.pow_succ]; omega
  refine ⟨fun k hk => node_congr Pr _ _ _ _ _ (fun r hr => ?_), fun k hk => node_congr Pr _ _ _ _ _ (fun r hr => ?_), ?_, ?_⟩
  · have := sis_low hk hi hr
    rw [room_at _ _ _ (by omega), room_at _ _ _ this, hC1 _ this]
  · have := sis_low hk hi hr
    rw [sis_high hk, Nat.add_assoc, room_at _ _ _ (by omega), room_at _ _ _ this, hC2 _ this]
  · have h0 : i / 2 ^ e = 0 := Nat.div_eq_of_lt hi
    have e2 : treeN Pr B e = nodeT Pr zR (nm B) e 0 := by unfold treeN nodeT; rw [Nat.zero_mul, List.drop_zero]
    rw [h0, e2]
    refine node_congr Pr _ _ _ _ _ (fun r hr => ?_)
    show (roomL C (e + 1)).getD (1 * 2 ^ e + r) zR = _
    rw [Nat.one_mul, Nat.zero_mul, Nat.zero_add, room_at _ _ _ (by omega), hC2 _ hr]
  · have h0 : (2 ^ e + i) / 2 ^ e = 1 := by
      rw [Nat.add_div_left _ hp, Nat.div_eq_of_lt hi]
    have e2 : treeN Pr A e = nodeT Pr zR (nm A) e 0 := by unfold treeN nodeT; rw [Nat.zero_mul, List.drop_zero]
    rw [h0, e2]
    refine node_congr Pr _ _ _ _ _ (fun r hr => ?_)
    show (roomL C (e + 1)).getD (0 * 2 ^ e + r) zR = _
    rw [Nat.zero_mul, Nat.zero_add, room_at _ _ _ (by omega), hC1 _ hr]
end
end Go.Proofs.YtaloefkkllebeaaDoor
namespace Go.Proofs.YtaloefkkllebeaaDoor
open Go Go.Sh
noncomputable def tblF17 (BF : List (R8 32) → UInt64 → Nat → Nat → A) (T : List (R8 32) → Nat → R8 32) (RB : List (R8 32) → List (R8 32) → Bool) : List (Row A) :=
  [rowOf A 51 (fun _ : GA Unit => true), lightRow, rowOf A 31 (fun x : Int × Ps × Unit => placeV x.1 x.2.1.z), rowOf A 39 (fun _ : Unit => (⟨.mk⟩ : Hz Mk)),
    growRow A 56 25 32 (fun x : GA (Rt 32 × Dp 9 × UInt64 × Unit) => x.x.2.1.n) (fun x => BF x.x.1.l x.x.2.2.1 x.x.2.1.n), rowOf A 45 (fun x : Hs Mk × Rt 32 × Dp 62 × Unit => T x.2.1.l x.2.2.1.n),
    rowOf A 57 (fun x : Rt 32 × Rt 32 × Unit => RB x.1.l x.2.1.l)]
end Go.Proofs.YtaloefkkllebeaaDoor
