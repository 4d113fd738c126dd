/- SHA-256: the sum is the reference's. -/
import Derived.Test.YtaloefkkllebeaaDoorSb3
set_option linter.unusedVariables false
set_option linter.unusedSimpArgs false
set_option linter.unusedSectionVars false
namespace Go.Sh
theorem u32_nat (n : Nat) : (u32 (n : Int)).toNat = n % 4294967296 := by
  unfold u32
  have : ((n : Int) % 4294967296).toNat = n % 4294967296 := by omega
  rw [this, UInt32.toNat_ofNat_of_lt' (show _ < 4294967296 by omega)]
theorem b32_nat (x : UInt32) : (b32 x).toNat = x.toNat := by
  show (BitVec.ofInt 32 (x.toNat : Int)).toNat = _
  rw [BitVec.ofInt_natCast, BitVec.toNat_ofNat, Nat.mod_eq_of_lt (show x.toNat < 2 ^ 32 from x.toNat_lt)]
theorem or3_nat (x y : UInt32) : (or3 x y).toNat = x.toNat ||| y.toNat := by
  unfold or3
  rw [u32_nat]
  have h : ((b32 x ||| b32 y) : BitVec 32).toNat = x.toNat ||| y.toNat := by rw [BitVec.toNat_or]; have h1 := b32_nat x; have h2 := b32_nat y; show (b32 x).toNat ||| (b32 y).toNat = _; rw [h1, h2]
  have h2 : (b32 x ||| b32 y).toNat = x.toNat ||| y.toNat := h
  rw [h2]
  have hlt : x.toNat ||| y.toNat < 2 ^ 32 := Nat.or_lt_two_pow x.toNat_lt y.toNat_lt
  exact Nat.mod_eq_of_lt hlt
theorem shl3_nat (x : UInt32) (n : Nat) (h : n ≤ 32) : (shl3 x n).toNat = x.toNat <<< n % 2 ^ 32 := by
  unfold shl3
  have hm : min n IntKind.u32.bits = n := Nat.min_eq_left h
  rw [hm]
  have : (x.toNat : Int) * 2 ^ n = ((x.toNat * 2 ^ n : Nat) : Int) := by
    rw [Int.natCast_mul, Int.natCast_pow]; rfl
  rw [this, u32_nat, Nat.shiftLeft_eq]
theorem or3_comm (x y : UInt32) : or3 x y = or3 y x := UInt32.toNat_inj.1 (by rw [or3_nat, or3_nat, Nat.or_comm])
theorem or3_zero (y : UInt32) : or3 0 y = y := UInt32.toNat_inj.1 (by rw [or3_nat]; simp)
theorem shl3_or (x y : UInt32) {n : Nat} (h : n ≤ 32) : shl3 (or3 x y) n = or3 (shl3 x n) (shl3 y n) := by
  apply UInt32.toNat_inj.1
  rw [shl3_nat _ _ h, or3_nat, or3_nat, shl3_nat _ _ h, shl3_nat _ _ h, Nat.shiftLeft_or_distrib, Nat.or_mod_two_pow]
theorem shl3_shl (x : UInt32) {m n : Nat} (h : m + n ≤ 32) : shl3 (shl3 x m) n = shl3 x (m + n) := by
  apply UInt32.toNat_inj.1
  rw [shl3_nat _ _ (by omega), shl3_nat _ _ (by omega), shl3_nat _ _ h, Nat.shiftLeft_eq, Nat.shiftLeft_eq, Nat.shiftLeft_eq, Nat.mod_mul_mod, Nat.pow_add, Nat.mul_assoc]
theorem shl3_zero (n : Nat) (h : n ≤ 32) : shl3 0 n = 0 := UInt32.toNat_inj.1 (by rw [shl3_nat _ _ h]; simp)
theorem turn3_rot (x : UInt32) (n : Nat) : turn3 x n = rot3 x n := or3_comm _ _
theorem sigR0_eq (x : UInt32) : sigR0 x = sig0 x := by unfold sigR0 sig0; rw [turn3_rot, turn3_rot]
theorem sigR1_eq (x : UInt32) : sigR1 x = sig1 x := by unfold sigR1 sig1; rw [turn3_rot, turn3_rot]
theorem bigR0_eq (x : UInt32) : bigR0 x = big0 x := by unfold bigR0 big0; rw [turn3_rot, turn3_rot, turn3_rot]
theorem bigR1_eq (x : UInt32) : bigR1 x = big1 x := by unfold bigR1 big1; rw [turn3_rot, turn3_rot, turn3_rot]
theorem wStepR_eq (f : Nat → UInt32) (k : Nat) : wStepR f k = wStep f k := by unfold wStepR wStep; rw [sigR0_eq, sigR1_eq]
theorem wItR_eq (f : Nat → UInt32) : ∀ i, wItR f i = wIt f i
  | 0 => rfl
  | i + 1 => by unfold wItR wIt; rw [wItR_eq f i, wStepR_eq]
theorem upd_upd {α : Type} (f : Nat → α) (i : Nat) (x y : α) : upd (upd f i x) i y = upd f i y := by
  funext j; unfold upd; split <;> rfl
theorem upd_at {α : Type} (f : Nat → α) (i : Nat) (x : α) : upd f i x i = x := by unfold upd; rw [if_pos rfl]
theorem hStep_nat (P : List UInt8) (k i kk : Nat) (f : Nat → UInt32) : hStep P k i kk f = upd f i (or3 (shl3 (f i) 8) (byte3 (P.getD (64 * k + 4 * i + kk) 0))) := by
  unfold hStep
  have h1 : (i : Int).toNat = i := rfl
  have h2 : ((((64 * k : Nat) : Int) + 4 * (i : Int)) + (kk : Int)).toNat = 64 * k + 4 * i + kk := by omega
  rw [h1, h2]
theorem headR_eq (P : List UInt8) (g : Nat → UInt8) (k i : Nat) (f : Nat → UInt32) (hf : f i = 0) (hg : ∀ j, j < 64 → g j = P.getD (64 * k + j) 0) (hi : i < 16) : headR P k i f = upd f (i : Int).toNat (wHead g i) := by
  unfold headR
  simp only [hStep_nat, upd_upd, upd_at]
  have h1 : (i : Int).toNat = i := rfl
  have i0 : (4 * (i : Int)).toNat = 4 * i := by omega
  have i1 : (4 * (i : Int) + 1).toNat = 4 * i + 1 := by omega
  have i2 : (4 * (i : Int) + 2).toNat = 4 * i + 2 := by omega
  have i3 : (4 * (i : Int) + 3).toNat = 4 * i + 3 := by omega
  rw [h1, hf]
  congr 1
  unfold wHead
  rw [i0, i1, i2, i3, hg _ (by omega), hg _ (by omega), hg _ (by omega), hg _ (by omega)]
  rw [shl3_zero 8 (by omega), or3_zero]
  rw [shl3_or _ _ (by omega : 8 ≤ 32), shl3_or _ _ (by omega : 8 ≤ 32), shl3_or _ _ (by omega : 8 ≤ 32), shl3_shl _ (by omega), shl3_shl _ (by omega), shl3_shl _ (by omega)]
  simp only [Nat.add_assoc, Nat.add_zero]
theorem z64_zero (j : Nat) : z64 j = 0 := by
  unfold z64
  have key : ∀ (n j : Nat), pickN (0 : UInt32) (List.replicate n (UInt32.ofNat 0)) j = 0 := by
    intro n
    induction n with
    | zero => intro j; rfl
    | succ n ih =>
      intro j
      cases j with
      | zero => rfl
      | succ j => exact ih j
  exact key 64 j
theorem wFirst_later (g : Nat → UInt8) : ∀ (i j : Nat), i ≤ j → wFirst g i j = 0
  | 0, j, _ => z64_zero j
  | i + 1, j, h => by
    show upd (wFirst g i) (i : Int).toNat (wHead g i) j = 0
    have : (i : Int).toNat = i := rfl
    unfold upd
    rw [this, if_neg (by omega), wFirst_later g i j (by omega)]
theorem hIt_eq (P : List UInt8) (g : Nat → UInt8) (k : Nat) (hg : ∀ j, j < 64 → g j = P.getD (64 * k + j) 0) : ∀ i, i ≤ 16 → hIt P k i = wFirst g i
  | 0, _ => rfl
  | i + 1, h => by
    show headR P k i (hIt P k i) = upd (wFirst g i) (i : Int).toNat (wHead g i)
    rw [hIt_eq P g k hg i (by omega)]
    exact headR_eq P g k i _ (wFirst_later g i i (Nat.le_refl _)) hg (by omega)
theorem tabA_round (i : Nat) : tabA (i + 8) = roundK i := rfl
theorem v8_step (kk w : UInt32) (v : Nat → UInt32) : v8 (rStepR kk w v) = rStep kk w (v8 v) := by
  unfold rStepR
  show (add3 (tR kk w v) (uR v), v 0, v 1, v 2, add3 (v 3) (tR kk w v), v 4, v 5, v 6) = _
  unfold rStep tR uR tOf uOf v8
  rw [bigR0_eq, bigR1_eq]
theorem rIt_eq (w v : Nat → UInt32) : ∀ i, v8 (rItR w v i) = rIt w (v8 v) i
  | 0 => rfl
  | i + 1 => by
    show v8 (rStepR (tabA (i + 8)) (w i) (rItR w v i)) = rStep (roundK i) (w i) (rIt w (v8 v) i)
    rw [v8_step, rIt_eq w v i, tabA_round]
theorem refComp_eq (P : List UInt8) (g : Nat → UInt8) (k : Nat) (h : Nat → UInt32) (hg : ∀ j, j < 64 → g j = P.getD (64 * k + j) 0) : refComp P k h = compF h g := by
  unfold refComp compF wordsF
  rw [hIt_eq P g k hg 16 (Nat.le_refl _), wItR_eq]
  show plus8 h (v8 (rItR (wIt (wFirst g 16) 48) h 64)) = _
  rw [rIt_eq]
theorem extB_at (l : List UInt8) : ∀ (n i j : Nat), j < n → pickN 0 (extB l i n) j = l.getD (i + j) 0
  | n + 1, i, 0, _ => rfl
  | n + 1, i, j + 1, h => by
    show pickN 0 (extB l (i + 1) n) j = _
    rw [extB_at l n (i + 1) j (by omega)]
    congr 1
    omega
theorem blkF_at (l : List UInt8) (i j : Nat) (h : j < 64) : blkF l i j = l.getD (i + j) 0 := extB_at l 64 i j h
theorem padL_lo (l : List UInt8) {i : Nat} (h : i < l.length) : (padL l).getD i 0 = l.getD i 0 := by
  unfold padL
  rw [List.getD_eq_getElem?_getD, List.getElem?_append_left h, ← List.getD_eq_getElem?_getD]
theorem padL_mark (l : List UInt8) : (padL l).getD l.length 0 = UInt8.ofNat 128 := by
  unfold padL
  rw [List.getD_eq_getElem?_getD, List.getElem?_append_right (Nat.le_refl _)]
  simp
theorem padL_zero (l : List UInt8) {i : Nat} (h1 : l.length < i) (h2 : i < l.length + 1 + zerosN l.length) : (padL l).getD i 0 = 0 := by
  unfold padL
  rw [List.getD_eq_getElem?_getD, List.getElem?_append_right (by omega)]
  obtain ⟨d, rfl⟩ : ∃ d, i = l.length + (d + 1) := ⟨i - l.length - 1, by omega⟩
  rw [Nat.add_sub_cancel_left, List.getElem?_cons_succ, List.getElem?_append_left (by simp; omega), List.getElem?_replicate, if_pos (by omega)]
  rfl
theorem padL_len8 (l : List UInt8) (i : Nat) : (padL l).getD (l.length + 1 + zerosN l.length + i) 0 = (lens l.length).getD i 0 := by
  unfold padL
  rw [List.getD_eq_getElem?_getD, List.getElem?_append_right (by omega)]
  rw [show l.length + 1 + zerosN l.length + i - l.length = (zerosN l.length + i) + 1 by omega, List.getElem?_cons_succ, List.getElem?_append_right (by simp), List.length_replicate, Nat.add_sub_cancel_left, ← List.getD_eq_getElem?_getD]
theorem pickN_getD {α : Type} (d : α) : ∀ (l : List α) (j : Nat), pickN d l j = l.getD j d
  | [], _ => rfl
  | x :: l, 0 => rfl
  | x :: l, j + 1 => by show pickN d l j = _; rw [pickN_getD d l j]; simp
theorem pad1_at (l : List UInt8) (o r j : Nat) (hr : r < 64) : pad1 l o r j = if j = r then UInt8.ofNat 128 else if j < r then l.getD (o + j) 0 else 0 := by
  unfold pad1 upd
  have h1 : (r : Int).toNat = r := rfl
  rw [h1]
  split
  · rfl
  · unfold pad0
    have hm : min r (64 - 0) = r := by omega
    rw [hm]
    split
    · rename_i hb
      rw [Nat.blt_eq] at hb
      rw [if_pos hb]
    · rename_i hb
      have : ¬ j < r := fun h => by rw [← Nat.blt_eq] at h; rw [h] at hb; cases hb
      rw [if_neg this, pickN_getD]
      have key : ∀ (n j : Nat), (List.replicate n (UInt8.ofNat 0)).getD j 0 = 0 := by
        intro n j
        rw [List.getD_eq_getElem?_getD, List.getElem?_replicate]
        split <;> rfl
      exact key 64 j
end Go.Sh
namespace Go.Proofs.YtaloefkkllebeaaDoor
open Go Go.Sh
theorem shaS_eq (l : List UInt8) : ∀ k, k ≤ l.length / 64 → refS (padL l) k = shaS firstF compF l k
  | 0, _ => rfl
  | k + 1, h => by
    show refComp (padL l) k (refS (padL l) k) = compF (shaS firstF compF l k) (blkF l (offK k))
    rw [shaS_eq l k (by omega)]
    refine refComp_eq _ _ _ _ (fun j hj => ?_)
    rw [blkF_at _ _ _ hj, offK_eq, padL_lo l (by omega)]
theorem four_eq (x : UInt32) : fourR x = four x := by
  have : shrB x 0 = lowB x := by
    unfold shrB lowB
    rw [show min 0 IntKind.u32.bits = 0 from rfl, Nat.pow_zero, Nat.div_one, UInt32.toNat_ofNat_of_lt' x.toNat_lt]
  unfold fourR four
  rw [this]
theorem outRf_eq (f : Nat → UInt32) : outRf f = outF f := by unfold outRf outF; simp only [four_eq]
/-- The sum is the reference's. -/
theorem sum_ref (l : List UInt8) : sumF firstF compF outF l = outRf (refS (padL l) ((padL l).length / 64)) := by
  have hlen := padL_len l
  have hq := Nat.div_add_mod l.length 64
  have hr64 : l.length % 64 < 64 := Nat.mod_lt _ (by decide)
  have hk : lenK l.length (l.length / 64) = l.length % 64 := by rw [lenK_eq]; omega
  have ho : offK (l.length / 64) = 64 * (l.length / 64) := offK_eq _
  unfold sumF
  rw [hk, ho, outRf_eq]
  cases hb : Nat.blt (l.length % 64) 56 with
  | true =>
    rw [Nat.blt_eq] at hb
    have hz : zerosN l.length = 55 - l.length % 64 := by unfold zerosN; omega
    have hP : (padL l).length / 64 = l.length / 64 + 1 := by rw [hlen, hz]; omega
    rw [hP]
    show outF _ = outF (refComp (padL l) (l.length / 64) (refS (padL l) (l.length / 64)))
    rw [shaS_eq l _ (Nat.le_refl _)]
    refine congrArg outF (refComp_eq _ _ _ _ (fun j hj => ?_)).symm
    unfold lastA
    rw [pickN_getD, List.getD_eq_getElem?_getD]
    rcases Nat.lt_or_ge j 56 with h56 | h56
    · rw [List.getElem?_append_left (by simpa using h56), List.getElem?_map, List.getElem?_range h56]
      show pad1 l _ _ j = _
      rw [pad1_at _ _ _ _ hr64]
      split
      · rename_i e; rw [show 64 * (l.length / 64) + j = l.length by omega, padL_mark]
      · split
        · rw [padL_lo l (by omega)]
        · rw [padL_zero l (by omega) (by omega)]
    · rw [List.getElem?_append_right (by simpa using h56), List.length_map, List.length_range, ← List.getD_eq_getElem?_getD]
      rw [show 64 * (l.length / 64) + j = l.length + 1 + zerosN l.length + (j - 56) by omega, padL_len8]
  | false =>
    have hb' : ¬ l.length % 64 < 56 := fun h => by rw [← Nat.blt_eq] at h; rw [h] at hb; cases hb
    have hz : zerosN l.length = 119 - l.length % 64 := by unfold zerosN; omega
    have hP : (padL l).length / 64 = l.length / 64 + 1 + 1 := by rw [hlen, hz]; omega
    rw [hP]
    show outF _ = outF (refComp (padL l) (l.length / 64 + 1) (refComp (padL l) (l.length / 64) (refS (padL l) (l.length / 64))))
    rw [shaS_eq l _ (Nat.le_refl _)]
    have e1 := refComp_eq (padL l) (pad1 l (64 * (l.length / 64)) (l.length % 64)) (l.length / 64) (shaS firstF compF l (l.length / 64)) (fun j hj => by
      rw [pad1_at _ _ _ _ hr64]
      split
      · rename_i e; rw [show 64 * (l.length / 64) + j = l.length by omega, padL_mark]
      · split
        · rw [padL_lo l (by omega)]
        · rw [padL_zero l (by omega) (by omega)])
    have e2 := refComp_eq (padL l) (lastB l.length) (l.length / 64 + 1) (compF (shaS firstF compF l (l.length / 64)) (pad1 l (64 * (l.length / 64)) (l.length % 64))) (fun j hj => by
      unfold lastB
      rw [pickN_getD, List.getD_eq_getElem?_getD]
      rcases Nat.lt_or_ge j 56 with h56 | h56
      · rw [List.getElem?_append_left (by simpa using h56), List.getElem?_replicate, if_pos h56, padL_zero l (by omega) (by omega)]
        rfl
      · rw [List.getElem?_append_right (by simpa using h56), List.length_replicate, ← List.getD_eq_getElem?_getD]
        rw [show 64 * (l.length / 64 + 1) + j = l.length + 1 + zerosN l.length + (j - 56) by omega, padL_len8])
    rw [e1]
    exact congrArg outF e2.symm
end Go.Proofs.YtaloefkkllebeaaDoor
