/- Places; a tree's nodes; a branch's rows. -/
import Derived.Test.YtaloefkkllebeaaDoorSk2
set_option linter.unusedVariables false
set_option linter.unusedSimpArgs false
set_option linter.unusedSectionVars false
namespace Go.Sh
/-- How many places there are. -/
structure Ps where
  z : Int
instance : Arg A Ps where
  G := Unit
  good W g x := 0 < x.z ∧ x.z ≤ 4611686018427387904
  tv g x := .val false [.n .i64 x.z]
  val g x := .int .i64 x.z
  is := by
    intro W g x β h
    exact LIs.of_single rfl
  parse old m t := match Arg.parse (A := A) (T := Int) old m t with | some (z, vc) => some (⟨z⟩, (0 < z ∧ z ≤ 4611686018427387904) :: vc) | none => none
  ok := by
    intro c X W0 W β m t x vc v h hvc hm e
    split at h
    · rename_i z vc' hz
      simp at h
      obtain ⟨rfl, rfl⟩ := h
      obtain ⟨g, h1, h2⟩ := Arg.ok (A := A) (T := Int) (c := c) (m := m) (t := t) hz (fun p hp => hvc p (by simp [hp])) hm e
      exact ⟨(), hvc _ (by simp), h2⟩
    · cases h
def placeV (k n : Int) : Int := match decide (k.tmod n < 0) with | true => k.tmod n + n | false => k.tmod n
theorem placeV_ok (k : Int) {n : Int} (h : 0 < n) : 0 ≤ placeV k n ∧ placeV k n < n := by
  unfold placeV
  have h1 : k.tmod n < n := Int.tmod_lt_of_pos k h
  have h2 : -n < k.tmod n := Int.lt_tmod_of_pos k h
  by_cases h3 : k.tmod n < 0
  · rw [decide_eq_true h3]; simp only; omega
  · rw [decide_eq_false h3]; simp only; omega
end Go.Sh
namespace Go.Sh
/-! ### Numbers of 64 bits -/
theorem cvU_nat' {i : Nat} (h : i < 18446744073709551616) : (cvU (i : Int)).toNat = i := by
  have := cvU_nat h
  omega
theorem bv64 (n : Nat) (h : n < 18446744073709551616) : (BitVec.ofInt IntKind.u64.bits (n : Int)).toNat = n := by
  show (BitVec.ofInt 64 (n : Int)).toNat = n
  rw [BitVec.ofInt_natCast, BitVec.toNat_ofNat]
  exact Nat.mod_eq_of_lt h
theorem bv1 : (BitVec.ofInt IntKind.u64.bits 1).toNat = 1 := by decide
theorem u64_lt (x : UInt64) : x.toNat < 18446744073709551616 := x.toNat_lt
theorem xorW_nat (x : UInt64) : (xorW x).toNat = x.toNat ^^^ 1 := by
  unfold xorW
  rw [BitVec.toNat_xor, bv64 _ (u64_lt x), bv1]
  exact cvU_nat' (show x.toNat ^^^ 1 < 2 ^ 64 from Nat.xor_lt_two_pow (u64_lt x) (by decide))
theorem andW_nat (x y : UInt64) : (andW x y).toNat = x.toNat &&& y.toNat := by
  unfold andW
  rw [BitVec.toNat_and, bv64 _ (u64_lt x), bv64 _ (u64_lt y)]
  exact cvU_nat' (show x.toNat &&& y.toNat < 2 ^ 64 from Nat.and_lt_two_pow _ (u64_lt y))
theorem shr1_nat (x : UInt64) : (shr1 x).toNat = x.toNat / 2 := by
  unfold shr1
  have := u64_lt x
  rw [show min 1 IntKind.u64.bits = 1 from rfl, UInt64.toNat_ofNat_of_lt' (show x.toNat / 2 ^ 1 < 18446744073709551616 by omega)]
theorem pow_lt64 {d : Nat} (h : d ≤ 62) : 0 < 2 ^ d ∧ 2 ^ d < 18446744073709551616 := by
  have h1 : (2 : Nat) ^ d ≤ 2 ^ 62 := Nat.pow_le_pow_right (by decide) h
  have h3 : (2 : Nat) ^ 62 = 4611686018427387904 := by decide
  exact ⟨Nat.pow_pos (by decide), by omega⟩
theorem onesW_nat {d : Nat} (h : d ≤ 62) : (onesW (d : Int)).toNat = 2 ^ d := by
  unfold onesW
  rw [cvU_nat (by omega), Int.one_mul, show IntKind.u64.bits = 64 from rfl, Nat.min_eq_left (by omega)]
  have e : ((2 : Int) ^ d) = ((2 ^ d : Nat) : Int) := by rw [Int.natCast_pow]; rfl
  rw [e]
  exact cvU_nat' (pow_lt64 h).2
theorem mskW_nat {d : Nat} (h : d ≤ 62) : (mskW (d : Int)).toNat = 2 ^ d - 1 := by
  unfold mskW
  rw [onesW_nat h]
  have hp := pow_lt64 h
  have e : ((2 ^ d : Nat) : Int) - 1 = ((2 ^ d - 1 : Nat) : Int) := by omega
  rw [e]
  exact cvU_nat' (by omega)
theorem ixB_nat (ix : UInt64) {d : Nat} (h : d ≤ 62) : ∀ k, (ixB ix (d : Int) k).toNat = ix.toNat % 2 ^ d / 2 ^ k
  | 0 => by
    show (andW ix (mskW (d : Int))).toNat = _
    rw [andW_nat, mskW_nat h, Nat.and_two_pow_sub_one_eq_mod, Nat.pow_zero, Nat.div_one]
  | k + 1 => by
    show (shr1 (ixB ix (d : Int) k)).toNat = _
    rw [shr1_nat, ixB_nat ix h k, Nat.div_div_eq_div_mul, ← Nat.pow_succ]
theorem bitQ_eq (x : UInt64) {i : Nat} (h : i < 64) : bitQ x i = decide (x.toNat / 2 ^ i % 2 = 1) := by
  unfold bitQ
  have hx := u64_lt x
  have hd : x.toNat / 2 ^ i ≤ x.toNat := Nat.div_le_self _ _
  rw [show min i IntKind.u64.bits = i from Nat.min_eq_left (by show i ≤ 64; omega), UInt64.toNat_ofNat_of_lt' (show x.toNat / 2 ^ i < 18446744073709551616 by omega), BitVec.toNat_and, bv64 _ (by omega), bv1, Nat.and_one_is_mod]
  have e : (UInt64.ofNat ((((x.toNat / 2 ^ i % 2 : Nat) : Int)) % 18446744073709551616).toNat).toNat = x.toNat / 2 ^ i % 2 := cvU_nat' (i := x.toNat / 2 ^ i % 2) (by omega)
  rw [e]
  rcases Nat.mod_two_eq_zero_or_one (x.toNat / 2 ^ i) with h0 | h0 <;> rw [h0] <;> rfl
theorem shW_nat (x : UInt64) {d : Nat} (h : d ≤ 62) : (shW x (d : Int)).toNat = x.toNat / 2 ^ d := by
  unfold shW
  have hx := u64_lt x
  have hd : x.toNat / 2 ^ d ≤ x.toNat := Nat.div_le_self _ _
  rw [cvU_nat (by omega), show min d IntKind.u64.bits = d from Nat.min_eq_left (by show d ≤ 64; omega), UInt64.toNat_ofNat_of_lt' (show x.toNat / 2 ^ d < 18446744073709551616 by omega)]
theorem xor1 (j : Nat) : j ^^^ 1 = if j % 2 = 1 then j - 1 else j + 1 := by
  have h := Nat.div_add_mod j 2
  have h2 : (j ^^^ 1) / 2 = j / 2 := by rw [Nat.xor_div_two]; simp
  have h3 : (j ^^^ 1) % 2 = (j + 1) % 2 := by
    have e := Nat.xor_mod_two_pow (a := j) (b := 1) (n := 1)
    rw [Nat.pow_one] at e
    rw [e]
    rcases Nat.mod_two_eq_zero_or_one j with h0 | h0
    · rw [h0, show (j + 1) % 2 = 1 by omega]; decide
    · rw [h0, show (j + 1) % 2 = 0 by omega]; decide
  have h4 := Nat.div_add_mod (j ^^^ 1) 2
  split <;> omega
/-! ### Rows -/
theorem elR_elR (B : Nat → UInt8) (i : Nat) : elR (elR B i) 0 = elR B i := by
  unfold elR
  rw [extR_congr (pickN 0 (extR B i 32)) B 32 0 i (fun j hj => by rw [Nat.zero_add, extR_at _ _ _ _ hj])]
theorem start_rows (l : List (R8 32)) (m : Nat) (h : m ≤ l.length) : (Lv.mk (fun q => rsB l (0 + q)) m).rows = (nm l).take m := by
  unfold Lv.rows nm
  apply List.ext_getElem?
  intro k
  rw [List.getElem?_map, List.getElem?_take, List.getElem?_map]
  by_cases hk : k < m
  · rw [if_pos hk, List.getElem?_range hk, List.getElem?_range (by omega)]
    show some (R8.mk (elR (fun q => rsB l (0 + q)) (k * 32))) = some (R8.mk (elL l k))
    rw [elR_congr (G := rsB l) (k := k * 32) (fun j _ => by rw [Nat.zero_add])]
    rfl
  · rw [if_neg hk, List.getElem?_eq_none (by simp; omega)]
    rfl
end Go.Sh
namespace Go.Proofs.YtaloefkkllebeaaDoor
open Go Go.Sh
theorem place_ok : Computes A Tryd.prog 31 (fun x : Int × Ps × Unit => placeV x.1 x.2.1.z) := by
  refine computes_of_run (TblOK.nil _) Tryd.func31 (by kernel_rfl) (by kernel_rfl) 6 ?_
  rintro _ ⟨k, ⟨n⟩, ⟨⟩⟩ W ⟨_, hn, _⟩
  have hn : 0 < n ∧ n ≤ 4611686018427387904 := hn
  have h1 : k.tmod n < n := Int.tmod_lt_of_pos k hn.1
  have h2 : -n < k.tmod n := Int.lt_tmod_of_pos k hn.1
  show ∃ orc y vc, _ ∧ _ ∧ y = placeV k n
  unfold placeV
  cases hc : decide (k.tmod n < 0) with
  | true => exact ⟨saysY [], k.tmod n + n, [WrapI (k.tmod n + n), decide (k.tmod n < 0) = true, n ≠ 0], by kernel_rfl, ⟨wI (by omega) (by omega), hc, by omega, trivial⟩, rfl⟩
  | false => exact ⟨saysY [(9, false)], k.tmod n, [decide (k.tmod n < 0) = false, n ≠ 0], by kernel_rfl, ⟨hc, by omega, trivial⟩, rfl⟩
section
variable (Pr : R8 32 → R8 32 → R8 32) (hc : Cut Pr)
include hc
theorem zK_cut : ∀ k, elR (zK Pr zR k).f 0 = (zK Pr zR k).f
  | 0 => by kernel_rfl
  | k + 1 => congrArg R8.f (hc _ _)
theorem lvG_rows (x : Lv) : ∀ k, (lvG Pr x k).rows = levL Pr zR x.rows k
  | 0 => rfl
  | k + 1 => by
    have ih := lvG_rows x k
    show _ = upL Pr (zK Pr zR k) (levL Pr zR x.rows k)
    rw [← ih]
    have hn : (lvG Pr x k).rows.length = (lvG Pr x k).n := rows_len _
    apply List.ext_getElem?
    intro j
    by_cases hj : j < ((lvG Pr x k).n + 1) / 2
    · have h1 : (lvG Pr x (k + 1)).rows.length = ((lvG Pr x k).n + 1) / 2 := rows_len _
      have h2 : (upL Pr (zK Pr zR k) (lvG Pr x k).rows).length = ((lvG Pr x k).n + 1) / 2 := by rw [upL_len, hn]
      have e1 := rows_at (lvG Pr x (k + 1)) j hj zR
      have e2 := upL_at Pr (zK Pr zR k) zR (lvG Pr x k).rows j (by rw [hn]; exact hj)
      rw [List.getD_eq_getElem?_getD, List.getElem?_eq_getElem (by omega)] at e1 e2
      rw [List.getElem?_eq_getElem (by omega), List.getElem?_eq_getElem (by omega)]
      congr 1
      refine (show (lvG Pr x (k + 1)).rows[j] = _ from e1).trans (Eq.trans ?_ (show (upL Pr (zK Pr zR k) (lvG Pr x k).rows)[j] = _ from e2).symm)
      have hup : ∀ i, i < 32 → (lvG Pr x (k + 1)).B (j * 32 + i) = (Pr ⟨elR (lvG Pr x k).B (two j * 32)⟩ ⟨riU (lvG Pr x k).B (lvG Pr x k).n (zK Pr zR k).f j⟩).f i := fun i hi => upB_at Pr _ _ _ _ _ _ hj hi
      rw [elR_congr (G := (Pr ⟨elR (lvG Pr x k).B (two j * 32)⟩ ⟨riU (lvG Pr x k).B (lvG Pr x k).n (zK Pr zR k).f j⟩).f) (k := 0) (fun i hi => by rw [hup i hi, Nat.zero_add]), hc]
      rw [rows_at _ _ (by omega), hn, two_eq]
      congr 1
      unfold riU
      by_cases hm : 2 * j + 1 < (lvG Pr x k).n
      · rw [if_pos hm, rows_at _ _ hm, two_eq]
        rw [decide_eq_true (show ((2 * j : Nat) : Int) + 1 < ((lvG Pr x k).n : Int) by omega)]
      · rw [if_neg hm, two_eq]
        rw [decide_eq_false (show ¬ ((2 * j : Nat) : Int) + 1 < ((lvG Pr x k).n : Int) by omega)]
    · rw [List.getElem?_eq_none (by rw [rows_len]; show ((lvG Pr x k).n + 1) / 2 ≤ j; omega), List.getElem?_eq_none (by rw [upL_len, hn]; omega)]
theorem sis_node (x : Lv) (hx : x.n < 1048576) (k : Nat) (y : UInt64) : (⟨sisB (lvG Pr x k).B (lvG Pr x k).n (zK Pr zR k).f y⟩ : R8 32) = nodeT Pr zR x.rows k (xorW y).toNat := by
  rw [← lev_node, ← lvG_rows Pr hc]
  have hn : (lvG Pr x k).n < 18446744073709551616 := by have := lvG_len Pr x k; omega
  unfold sisB
  rw [cvU_nat' hn]
  by_cases h : (xorW y).toNat < (lvG Pr x k).n
  · rw [decide_eq_true (show ((xorW y).toNat : Int) < ((lvG Pr x k).n : Int) by omega), rows_at _ _ h]
  · rw [decide_eq_false (show ¬ ((xorW y).toNat : Int) < ((lvG Pr x k).n : Int) by omega), List.getD_eq_getElem?_getD, List.getElem?_eq_none (by rw [rows_len]; omega)]
    rfl
theorem sis_cut (x : Lv) (k : Nat) (y : UInt64) : elR (sisB (lvG Pr x k).B (lvG Pr x k).n (zK Pr zR k).f y) 0 = sisB (lvG Pr x k).B (lvG Pr x k).n (zK Pr zR k).f y := by
  unfold sisB
  split
  · exact elR_elR _ _
  · exact zK_cut Pr hc k
omit hc in
theorem bF_at (x : Lv) (ix : UInt64) (D : Int) : ∀ (N k j : Nat), k < N → j < 32 → u8of (bF Pr x ix D N (k * 32 + j)) = sisB (lvG Pr x k).B (lvG Pr x k).n (zK Pr zR k).f (ixB ix D k) j
  | N + 1, k, j, hk, hj => by
    simp only [bF, catF, timesN_eq]
    by_cases h : k * 32 + j < N * (31 + 1)
    · have hb : (k * 32 + j).blt (N * (31 + 1)) = true := by rw [Nat.blt_eq]; exact h
      rw [hb]
      exact bF_at x ix D N k j (by omega) hj
    · have hb : (k * 32 + j).blt (N * (31 + 1)) = false := by rw [Bool.eq_false_iff, ne_eq, Nat.blt_eq]; exact h
      rw [hb]
      obtain rfl : k = N := by omega
      have e : 0 + (k * 32 + j - k * (31 + 1)) = j := by omega
      show u8of (cells32 _ (0 + (k * 32 + j - k * (31 + 1)))) = _
      rw [e, cells32_at _ _ hj]
      rfl
omit hc in
theorem mB_eq (l : List (R8 32)) {d : Nat} (h : d ≤ 62) : mB l (d : Int) = min l.length (2 ^ d) := by
  have eP : pow2W (((cvU (d : Int)).toNat : Int).toNat : Int) = (2 : Int) ^ d := by rw [cvU_nat (by omega), pow2W_eq (by omega)]
  have e : ((2 : Int) ^ d) = ((2 ^ d : Nat) : Int) := by rw [Int.natCast_pow]; rfl
  unfold mB
  rw [eP, e]
  by_cases h1 : (l.length : Int) > ((2 ^ d : Nat) : Int)
  · rw [decide_eq_true h1]
    show (((2 ^ d : Nat) : Int)).toNat - 0 = _
    rw [Int.toNat_natCast, Nat.sub_zero, Nat.min_eq_right (by omega)]
  · rw [decide_eq_false h1]
    show l.length = _
    rw [Nat.min_eq_left (by omega)]
/-- The chunks that a tree has room for. -/
def roomL (l : List (R8 32)) (d : Nat) : List (R8 32) := (nm l).take (2 ^ d)
theorem elL_branch {l : List (R8 32)} (hl : l.length < 1048576) (ix : UInt64) {d : Nat} (hd : d ≤ 62) {k : Nat} (hk : k < d) :
    elL (branchV Pr l ix d) k = (nodeT Pr zR (roomL l d) k ((ix.toNat % 2 ^ d / 2 ^ k) ^^^ 1)).f := by
  have hD : mmI (d : Int) = (d : Int) := by rw [mmI_eq]; omega
  have hm : mB l (d : Int) = min l.length (2 ^ d) := mB_eq l hd
  have hr : (Lv.mk (fun q => rsB l (0 + q)) (mB l (d : Int))).rows = roomL l d := by
    rw [start_rows l _ (by rw [hm]; exact Nat.min_le_left _ _), hm]
    unfold roomL
    rcases Nat.le_total l.length (2 ^ d) with h1 | h1
    · rw [Nat.min_eq_left h1, List.take_of_length_le (by rw [nm_len]; exact Nat.le_refl _), List.take_of_length_le (by rw [nm_len]; exact h1)]
    · rw [Nat.min_eq_right h1]
  have hs := sis_node Pr hc (Lv.mk (fun q => rsB l (0 + q)) (mB l (d : Int))) (by show mB l (d : Int) < _; rw [hm]; exact Nat.lt_of_le_of_lt (Nat.min_le_left _ _) hl) k (ixB ix (d : Int) k)
  rw [hr, xorW_nat, ixB_nat ix hd] at hs
  rw [← hs]
  show _ = sisB _ _ _ _
  rw [← sis_cut Pr hc]
  unfold elL branchV branchF
  rw [hD]
  refine elR_congr (fun j hj => ?_)
  have h1 : k * 32 + j < d * 32 := by omega
  rw [cutR_at _ _ _ _ h1, Nat.zero_add, Nat.zero_add, bF_at Pr _ _ _ _ _ _ hk hj]
omit hc in
theorem branchV_len (l : List (R8 32)) (ix : UInt64) (d : Nat) : (branchV Pr l ix d).length = d := by unfold branchV; rw [cutR_len]
end
end Go.Proofs.YtaloefkkllebeaaDoor
