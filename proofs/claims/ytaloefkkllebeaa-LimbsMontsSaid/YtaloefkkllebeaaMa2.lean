/- Montgomery's product: the plain law of its rows. -/
import Derived.Test.YtaloefkkllebeaaMa1
set_option linter.unusedVariables false
set_option linter.unusedSimpArgs false
set_option linter.unusedSectionVars false
namespace Go.Proofs.Ytaloefkkllebeaa
open Go Go.Sh
theorem blt_t {x y : Nat} (h : x < y) : Nat.blt x y = true := by rw [Nat.blt_eq]; exact h
theorem blt_f {x y : Nat} (h : ¬ x < y) : Nat.blt x y = false := by
  cases hb : Nat.blt x y with
  | true => rw [Nat.blt_eq] at hb; exact absurd hb h
  | false => rfl
theorem pickN_get {α : Type} (d : α) : ∀ (l : List α) (j : Nat) (h : j < l.length), pickN d l j = l[j]
  | x :: l, 0, h => rfl
  | x :: l, j + 1, h => pickN_get d l j (by simpa using h)
theorem map_seg {g : Nat → UInt64} {l : List UInt64} {p k : Nat} (hl : l.length = k) (h : ∀ j, j < k → g (p + j) = pickN 0 l j) : (List.range' p k).map g = l := by
  subst hl
  apply List.ext_getElem
  · simp
  · intro j h1 h2
    simp only [List.getElem_map, List.getElem_range', Nat.one_mul]
    rw [h j h2, pickN_get 0 l j h2]
theorem map_same {f g : Nat → UInt64} {p k : Nat} (h : ∀ j, j < k → g (p + j) = f (p + j)) : (List.range' p k).map g = (List.range' p k).map f := by
  apply List.ext_getElem
  · simp
  · intro j h1 h2
    simp only [List.getElem_map, List.getElem_range', Nat.one_mul]
    exact h j (by simpa using h1)
theorem valW_app : ∀ l r : List UInt64, valW (l ++ r) = valW l + 18446744073709551616 ^ l.length * valW r
  | [], r => by simp [valW]
  | x :: l, r => by
    have h := valW_app l r
    simp only [List.cons_append, valW, List.length_cons, Nat.pow_succ]
    rw [h, Nat.mul_add, Nat.mul_comm (18446744073709551616 ^ l.length) 18446744073709551616, Nat.mul_assoc]
    omega
/-- The number of twelve words. -/
def tV (f : Nat → UInt64) : Nat := valW ((List.range' 0 12).map f)
theorem tV_split (f : Nat → UInt64) (i n : Nat) (h : i + 6 + n ≤ 12) :
    tV f = valW ((List.range' 0 i).map f) + 18446744073709551616 ^ i * (valW ((List.range' i 6).map f) + 18446744073709551616 ^ 6 * (valW ((List.range' (i + 6) n).map f) + 18446744073709551616 ^ n * valW ((List.range' (i + 6 + n) (12 - (i + 6 + n))).map f))) := by
  have e : List.range' 0 12 = List.range' 0 i ++ (List.range' i 6 ++ (List.range' (i + 6) n ++ List.range' (i + 6 + n) (12 - (i + 6 + n)))) := by
    rw [List.range'_append_1, List.range'_append_1]
    have := List.range'_append_1 (s := 0) (m := i) (n := 6 + (n + (12 - (i + 6 + n))))
    rw [Nat.zero_add] at this
    rw [this]
    congr 1
    omega
  unfold tV
  rw [e]
  simp only [List.map_append, valW_app, List.length_map, List.length_range']
section
variable {H L : UInt64 → UInt64 → UInt64 → UInt64 → UInt64} {S : UInt64 → UInt64 → Cy → UInt64} {C : UInt64 → UInt64 → Cy → Cy}
  (hm : ∀ a b c d, (L a b c d).toNat + 18446744073709551616 * (H a b c d).toNat = a.toNat * b.toNat + c.toNat + d.toNat)
  (ha : ∀ x y c, (S x y c).toNat + 18446744073709551616 * (C x y c).n = x.toNat + y.toNat + c.n)
include hm in
theorem mLow_val (q : UInt64) : ∀ (ms : List UInt64) (f : Nat → UInt64) (p : Nat) (c : UInt64), (mLow H L q ms f p c).1.length = ms.length ∧
    valW (mLow H L q ms f p c).1 + 18446744073709551616 ^ ms.length * (mLow H L q ms f p c).2.toNat = valW ((List.range' p ms.length).map f) + q.toNat * valW ms + c.toNat
  | [], f, p, c => by simp [mLow, valW]
  | x :: ms, f, p, c => by
    obtain ⟨h1, h2⟩ := mLow_val q ms f (p + 1) (H q x (f p) c)
    have h3 := hm q x (f p) c
    refine ⟨by simp [mLow, h1], ?_⟩
    simp only [mLow, valW, List.length_cons, List.range'_succ, List.map_cons, Nat.pow_succ]
    rw [Nat.mul_comm (18446744073709551616 ^ ms.length) 18446744073709551616, Nat.mul_assoc, Nat.mul_add, Nat.mul_left_comm q.toNat 18446744073709551616]
    generalize valW (mLow H L q ms f (p + 1) (H q x (f p) c)).1 = u at h2 ⊢
    generalize 18446744073709551616 ^ ms.length * (mLow H L q ms f (p + 1) (H q x (f p) c)).2.toNat = w at h2 ⊢
    generalize q.toNat * valW ms = z at h2 ⊢
    omega
theorem condCy_n (c : Cy) : (cond c.on (1 : UInt64) 0).toNat = c.n := by obtain ⟨b⟩ := c; cases b <;> rfl
include ha in
theorem mCar_val : ∀ (n : Nat) (f : Nat → UInt64) (p : Nat) (c : UInt64), (mCar S C n f p c).1.length = n ∧
    valW (mCar S C n f p c).1 + 18446744073709551616 ^ n * (mCar S C n f p c).2.toNat = valW ((List.range' p n).map f) + c.toNat
  | 0, f, p, c => by simp [mCar, valW]
  | n + 1, f, p, c => by
    obtain ⟨h1, h2⟩ := mCar_val n f (p + 1) (cond (C (f p) c ⟨false⟩).on 1 0)
    have h3 := ha (f p) c ⟨false⟩
    have h4 : (⟨false⟩ : Cy).n = 0 := rfl
    rw [h4] at h3
    refine ⟨by simp [mCar, h1], ?_⟩
    simp only [mCar, valW, List.range'_succ, List.map_cons, Nat.pow_succ]
    rw [condCy_n] at h2
    rw [Nat.mul_comm (18446744073709551616 ^ n) 18446744073709551616, Nat.mul_assoc]
    generalize 18446744073709551616 ^ n * _ = w at h2 ⊢
    omega
theorem mCar_last : ∀ (n : Nat) (f : Nat → UInt64) (p : Nat) (c : UInt64), (mCar S C (n + 1) f p c).2 = cond (mB C n f p c) 1 0
  | 0, f, p, c => rfl
  | n + 1, f, p, c => mCar_last n f (p + 1) (cond (C (f p) c ⟨false⟩).on 1 0)
include hm ha in
theorem tNew_val (q : UInt64) (ms : List UInt64) (hms : ms.length = 6) (i n : Nat) (f : Nat → UInt64) (h : i + 6 + n ≤ 12) :
    tV (tNew H L S C q ms i n f) + 18446744073709551616 ^ (i + 6 + n) * (mCar S C n f (i + 6) (mLow H L q ms f i (UInt64.ofNat 0)).2).2.toNat = tV f + q.toNat * valW ms * 18446744073709551616 ^ i := by
  obtain ⟨l1, l2⟩ := mLow_val hm q ms f i (UInt64.ofNat 0)
  obtain ⟨c1, c2⟩ := mCar_val ha n f (i + 6) (mLow H L q ms f i (UInt64.ofNat 0)).2
  rw [hms] at l1 l2
  have z : (UInt64.ofNat 0).toNat = 0 := rfl
  rw [z] at l2
  rw [tV_split _ i n h, tV_split f i n h]
  have s1 : (List.range' 0 i).map (tNew H L S C q ms i n f) = (List.range' 0 i).map f := map_same (fun j hj => by
    simp only [tNew, blt_t (show 0 + j < i by omega)])
  have s2 : (List.range' i 6).map (tNew H L S C q ms i n f) = (mLow H L q ms f i (UInt64.ofNat 0)).1 := map_seg l1 (fun j hj => by
    simp only [tNew, blt_f (show ¬ i + j < i by omega), blt_t (show i + j < i + 6 by omega), Nat.add_sub_cancel_left])
  have s3 : (List.range' (i + 6) n).map (tNew H L S C q ms i n f) = (mCar S C n f (i + 6) (mLow H L q ms f i (UInt64.ofNat 0)).2).1 := map_seg c1 (fun j hj => by
    simp only [tNew, blt_f (show ¬ i + 6 + j < i by omega), blt_f (show ¬ i + 6 + j < i + 6 by omega), blt_t (show i + 6 + j < i + 6 + n by omega), Nat.add_sub_cancel_left])
  have s4 : (List.range' (i + 6 + n) (12 - (i + 6 + n))).map (tNew H L S C q ms i n f) = (List.range' (i + 6 + n) (12 - (i + 6 + n))).map f := map_same (fun j hj => by
    simp only [tNew, blt_f (show ¬ i + 6 + n + j < i by omega), blt_f (show ¬ i + 6 + n + j < i + 6 by omega), blt_f (show ¬ i + 6 + n + j < i + 6 + n by omega)])
  rw [s1, s2, s3, s4, Nat.pow_add, Nat.pow_add]
  generalize (mCar S C n f (i + 6) (mLow H L q ms f i (UInt64.ofNat 0)).2).2.toNat = cc at c2 ⊢
  generalize valW (mCar S C n f (i + 6) (mLow H L q ms f i (UInt64.ofNat 0)).2).1 = vc at c2 ⊢
  generalize (mLow H L q ms f i (UInt64.ofNat 0)).2.toNat = lc at c2 l2
  generalize valW (mLow H L q ms f i (UInt64.ofNat 0)).1 = vl at l2 ⊢
  generalize valW ((List.range' 0 i).map f) = x0
  generalize valW ((List.range' i 6).map f) = x1 at l2 ⊢
  generalize valW ((List.range' (i + 6) n).map f) = x2 at c2 ⊢
  generalize valW ((List.range' (i + 6 + n) (12 - (i + 6 + n))).map f) = x3
  generalize 18446744073709551616 ^ i = bi
  generalize 18446744073709551616 ^ n = bn at c2 ⊢
  generalize q.toNat * valW ms = y at l2 ⊢
  have e1 : vl + 18446744073709551616 ^ 6 * (vc + bn * x3) + 18446744073709551616 ^ 6 * bn * cc = x1 + 18446744073709551616 ^ 6 * (x2 + bn * x3) + y := by
    have e2 : 18446744073709551616 ^ 6 * (vc + bn * cc) = 18446744073709551616 ^ 6 * (x2 + lc) := by rw [c2]
    rw [Nat.mul_add, Nat.mul_add] at e2
    rw [Nat.mul_add, Nat.mul_add, Nat.mul_assoc]
    generalize 18446744073709551616 ^ 6 * (bn * cc) = g1 at e2 ⊢
    generalize 18446744073709551616 ^ 6 * (bn * x3) = g2
    generalize 18446744073709551616 ^ 6 * vc = g3 at e2 ⊢
    generalize 18446744073709551616 ^ 6 * x2 = g4 at e2 ⊢
    generalize 18446744073709551616 ^ 6 * lc = g5 at e2 l2
    omega
  calc x0 + bi * (vl + 18446744073709551616 ^ 6 * (vc + bn * x3)) + bi * 18446744073709551616 ^ 6 * bn * cc
      = x0 + bi * (vl + 18446744073709551616 ^ 6 * (vc + bn * x3) + 18446744073709551616 ^ 6 * bn * cc) := by
        rw [Nat.mul_add bi (vl + _) _, Nat.add_assoc]
        congr 2
        simp only [Nat.mul_assoc]
    _ = x0 + bi * (x1 + 18446744073709551616 ^ 6 * (x2 + bn * x3) + y) := by rw [e1]
    _ = x0 + bi * (x1 + 18446744073709551616 ^ 6 * (x2 + bn * x3)) + y * bi := by rw [Nat.mul_add bi (x1 + _) y, Nat.add_assoc, Nat.mul_comm y bi]
end
end Go.Proofs.Ytaloefkkllebeaa
