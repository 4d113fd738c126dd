/- Montgomery's product: its contract. -/
import Derived.Test.YtaloefkkllebeaaMa3
set_option linter.unusedVariables false
set_option linter.unusedSimpArgs false
set_option linter.unusedSectionVars false
namespace Go.Proofs.Ytaloefkkllebeaa
open Go Go.Sh
/-- One row more, in numbers. -/
theorem row_more {T m v f Y q i : Nat} (hv : (v * m + 1) % 18446744073709551616 = 0) (hT : T = 18446744073709551616 ^ i * Y) (hf : f = Y % 18446744073709551616) (hq : q = f * v % 18446744073709551616) :
    ∃ Y', T + q * m * 18446744073709551616 ^ i = 18446744073709551616 ^ (i + 1) * Y' := by
  have h1 : (Y + q * m) % 18446744073709551616 = 0 := by
    subst hq hf
    have e : (Y + Y % 18446744073709551616 * v % 18446744073709551616 * m) % 18446744073709551616 = (Y * (v * m + 1)) % 18446744073709551616 := by
      rw [Nat.add_mod, Nat.mul_mod (Y % 18446744073709551616 * v % 18446744073709551616) m, Nat.mod_mod, ← Nat.mul_mod (Y % 18446744073709551616 * v) m, Nat.mul_assoc, Nat.mul_mod (Y % 18446744073709551616), Nat.mod_mod, ← Nat.mul_mod, ← Nat.add_mod, Nat.mul_add, Nat.mul_one, Nat.add_comm]
    rw [e, Nat.mul_mod, hv, Nat.mul_zero, Nat.zero_mod]
  refine ⟨(Y + q * m) / 18446744073709551616, ?_⟩
  rw [hT, Nat.pow_succ, Nat.mul_assoc (18446744073709551616 ^ i), Nat.mul_div_cancel' (Nat.dvd_of_mod_eq_zero h1), Nat.mul_add, Nat.mul_comm (18446744073709551616 ^ i) (q * m)]
theorem tV_word (f : Nat → UInt64) (i : Nat) (h : i < 12) : (f i).toNat = tV f / 18446744073709551616 ^ i % 18446744073709551616 := by
  have := valW_word ((List.range' 0 12).map f) i (by simpa using h)
  rw [List.getD_eq_getElem?_getD, List.getElem?_eq_getElem (by simpa using h)] at this
  simpa [tV] using this
/-- What holds ahead of row i. -/
def MInv (P m : Nat) (i : Nat) (f : Nat → UInt64) (o : Option UInt64) : Prop :=
  topN o ≤ i ∧ ∃ Q Y, tV f + 18446744073709551616 ^ 12 * topN o = P + m * Q ∧ tV f + 18446744073709551616 ^ 12 * topN o = 18446744073709551616 ^ i * Y
theorem minv_step {P i : Nat} {m : Num} {v : UInt64} {f f' : Nat → UInt64} {o o' : Option UInt64} (hi : i < 6) (hv : (v.toNat * m.val + 1) % 18446744073709551616 = 0) (h : MInv P m.val i f o)
    (he : tV f' + 18446744073709551616 ^ 12 * topN o' = tV f + 18446744073709551616 ^ 12 * topN o + (qW f i v).toNat * m.val * 18446744073709551616 ^ i) (ho : topN o' ≤ topN o + 1) : MInv P m.val (i + 1) f' o' := by
  obtain ⟨h1, Q, Y, h2, h3⟩ := h
  have hf : (f i).toNat = Y % 18446744073709551616 := by
    rw [tV_word f i (by omega)]
    have e : tV f / 18446744073709551616 ^ i % 18446744073709551616 = (tV f + 18446744073709551616 ^ 12 * topN o) / 18446744073709551616 ^ i % 18446744073709551616 := by
      have e2 : (18446744073709551616 : Nat) ^ 12 * topN o = 18446744073709551616 ^ i * (18446744073709551616 * (18446744073709551616 ^ (11 - i) * topN o)) := by
        have e3 : (18446744073709551616 : Nat) ^ 12 = 18446744073709551616 ^ i * (18446744073709551616 * 18446744073709551616 ^ (11 - i)) := by
          rw [Nat.mul_comm 18446744073709551616 (18446744073709551616 ^ (11 - i)), ← Nat.pow_succ, ← Nat.pow_add]
          congr 1
          omega
        rw [e3, Nat.mul_assoc, Nat.mul_assoc]
      rw [e2, Nat.add_mul_div_left _ _ (Nat.pow_pos (by decide)), Nat.add_mul_mod_self_left]
    rw [e, h3, Nat.mul_div_cancel_left _ (Nat.pow_pos (by decide))]
  have hq : (qW f i v).toNat = (f i).toNat * v.toNat % 18446744073709551616 := by
    unfold qW
    have : (((f i).toNat : Int) * (v.toNat : Int)) = (((f i).toNat * v.toNat : Nat) : Int) := by rw [Int.natCast_mul]
    rw [this, u64_nat]
  obtain ⟨Y', h4⟩ := row_more hv h3 hf hq
  refine ⟨by omega, Q + (qW f i v).toNat * 18446744073709551616 ^ i, Y', ?_, by rw [he, h4]⟩
  rw [he, h2, Nat.mul_add, ← Nat.mul_assoc, Nat.mul_comm (qW f i v).toNat, Nat.add_assoc]
section
variable {H L : UInt64 → UInt64 → UInt64 → UInt64 → UInt64} {S : UInt64 → UInt64 → Cy → UInt64} {C : UInt64 → UInt64 → Cy → Cy}
  (hm : ∀ a b c d, (L a b c d).toNat + 18446744073709551616 * (H a b c d).toNat = a.toNat * b.toNat + c.toNat + d.toNat)
  (ha : ∀ x y c, (S x y c).toNat + 18446744073709551616 * (C x y c).n = x.toNat + y.toNat + c.n)
  (ht : TblOK Try.prog (tblMm H L S C)) (a b m : Num) (v : UInt64)
include hm ha ht
theorem mAll (hv : (v.toNat * m.val + 1) % 18446744073709551616 = 0) (f : Nat → UInt64) : ∃ (f' : Nat → UInt64) (o' : Option UInt64), MInv (tV f) m.val 6 f' o' ∧
    ∀ {old : Addr → Option Value} {k : Cfg A}, k.P = Try.prog → k.gl = (fun _ => none) → k.old = old → k.ys = [] → Goes k (loopNo Try.f23 7) (mS a b m v 0 f none) (.exit 0) (mE a b m v f' o') := by
  have i0 : MInv (tV f) m.val 0 f none := ⟨Nat.le_refl _, 0, tV f, by simp [topN], by simp [topN]⟩
  obtain ⟨f1, o1, q1, p1, r1⟩ := mRow0 hm ha ht a b m v f none (by decide) rfl
  have i1 := minv_step (by decide) hv i0 q1 p1
  obtain ⟨f2, o2, q2, p2, r2⟩ := mRow1 hm ha ht a b m v f1 o1 (by have := i1.1; omega)
  have i2 := minv_step (by decide) hv i1 q2 p2
  obtain ⟨f3, o3, q3, p3, r3⟩ := mRow2 hm ha ht a b m v f2 o2 (by have := i2.1; omega)
  have i3 := minv_step (by decide) hv i2 q3 p3
  obtain ⟨f4, o4, q4, p4, r4⟩ := mRow3 hm ha ht a b m v f3 o3 (by have := i3.1; omega)
  have i4 := minv_step (by decide) hv i3 q4 p4
  obtain ⟨f5, o5, q5, p5, r5⟩ := mRow4 hm ha ht a b m v f4 o4 (by have := i4.1; omega)
  have i5 := minv_step (by decide) hv i4 q5 p5
  obtain ⟨f6, o6, q6, p6, r6⟩ := mRow5 hm ha ht a b m v f5 o5 (by have := i5.1; omega)
  have i6 := minv_step (by decide) hv i5 q6 p6
  refine ⟨f6, o6, i6, fun e1 e2 e3 e4 => .step (r1 e1 e2 e3 e4) (.step (r2 e1 e2 e3 e4) (.step (r3 e1 e2 e3 e4) (.step (r4 e1 e2 e3 e4) (.step (r5 e1 e2 e3 e4) (.step (r6 e1 e2 e3 e4) (.last (by simp) ?_))))))⟩
  cases o6 with
  | none => exact mRN_end H L S C ht a b m v e1 e2 e3 e4 f6
  | some w => exact mRS_end H L S C ht a b m v e1 e2 e3 e4 f6 w
end
/-- The inverse's steps. -/
def invS (n x : UInt64) : UInt64 := u64 ((x.toNat : Int) * ((u64 (2 - ((u64 ((n.toNat : Int) * (x.toNat : Int))).toNat : Int))).toNat : Int))
def invO (n : UInt64) : UInt64 := u64 (0 - ((invS n (invS n (invS n (invS n (invS n n))))).toNat : Int))
theorem invO_ok : Computes A Try.prog 58 (fun x : UInt64 × Unit => invO x.1) :=
  computes_of_run0 (TblOK.nil _) Try.func58 (by kernel_rfl) (by kernel_rfl) 8 (fun _ _ _ => by kernel_rfl)
theorem u64_natU (n : Nat) : u64 (n : Int) = UInt64.ofNat n := UInt64.toNat_inj.1 (by rw [u64_nat]; simp)
theorem u64_mul (x y : UInt64) : u64 ((x.toNat : Int) * (y.toNat : Int)) = x * y := by
  have : ((x.toNat : Int) * (y.toNat : Int)) = ((x.toNat * y.toNat : Nat) : Int) := by rw [Int.natCast_mul]
  rw [this, u64_natU]
  apply UInt64.toNat_inj.1
  simp
theorem u64_sub (k : Nat) (hk : k < 18446744073709551616) (y : UInt64) : u64 ((k : Int) - (y.toNat : Int)) = UInt64.ofNat k - y := by
  apply UInt64.toNat_inj.1
  have hy := y.toNat_lt
  rw [UInt64.toNat_sub]
  have h1 : (UInt64.ofNat k).toNat = k := UInt64.toNat_ofNat_of_lt' hk
  rw [h1]
  unfold u64
  have h2 : (((k : Int) - (y.toNat : Int)) % 18446744073709551616).toNat < 18446744073709551616 := by omega
  rw [UInt64.toNat_ofNat_of_lt' (show _ < 18446744073709551616 from h2)]
  omega
theorem invS_eq (n x : UInt64) : invS n x = x * (2 - n * x) := by
  unfold invS
  rw [u64_mul n x, show ((2 : Int)) = ((2 : Nat) : Int) from rfl, u64_sub 2 (by decide), u64_mul]
  rfl
theorem odd_step (n x : UInt64) : 1 - n * invS n x = (1 - n * x) * (1 - n * x) := by
  rw [invS_eq]; grind
theorem invO_inv (n : UInt64) (h : n.toNat % 2 = 1) : (invO n).toNat * n.toNat % 18446744073709551616 = 18446744073709551615 := by
  obtain ⟨t, h0⟩ : ∃ t : UInt64, 1 - n * n = 8 * t := by
    refine ⟨-UInt64.ofNat (n.toNat / 2 * (n.toNat / 2 + 1) / 2), ?_⟩
    have e1 : n.toNat = 2 * (n.toNat / 2) + 1 := by omega
    have e2 : ∀ j : Nat, 2 * (j * (j + 1) / 2) = j * (j + 1) := fun j => by
      have : j * (j + 1) % 2 = 0 := by
        rcases Nat.mod_two_eq_zero_or_one j with h | h
        · rw [Nat.mul_mod, h]; simp
        · rw [Nat.mul_mod, show (j + 1) % 2 = 0 by omega]; simp
      omega
    have e3 : n.toNat * n.toNat = 8 * (n.toNat / 2 * (n.toNat / 2 + 1) / 2) + 1 := by
      have := e2 (n.toNat / 2)
      generalize n.toNat / 2 * (n.toNat / 2 + 1) / 2 = z at this ⊢
      generalize n.toNat / 2 = j at e1 this
      rw [e1]
      have e4 : (2 * j + 1) * (2 * j + 1) = 4 * (j * (j + 1)) + 1 := by grind
      omega
    have e5 : n * n = 8 * UInt64.ofNat (n.toNat / 2 * (n.toNat / 2 + 1) / 2) + 1 := by
      have h1 : n * n = UInt64.ofNat (n.toNat * n.toNat) := by
        apply UInt64.toNat_inj.1; simp
      rw [h1, e3]
      apply UInt64.toNat_inj.1
      simp
    rw [e5]; grind
  have h1 := odd_step n n
  have h2 := odd_step n (invS n n)
  have h3 := odd_step n (invS n (invS n n))
  have h4 := odd_step n (invS n (invS n (invS n n)))
  have h5 := odd_step n (invS n (invS n (invS n (invS n n))))
  have hx : n * invS n (invS n (invS n (invS n (invS n n)))) = 1 := by
    generalize invS n (invS n (invS n (invS n (invS n n)))) = x5 at h5 ⊢
    generalize invS n (invS n (invS n (invS n n))) = x4 at h4 h5
    generalize invS n (invS n (invS n n)) = x3 at h3 h4
    generalize invS n (invS n n) = x2 at h2 h3
    generalize invS n n = x1 at h1 h2
    have g1 : 1 - n * x1 = 64 * (t * t) := by rw [h1, h0]; grind
    have g2 : 1 - n * x2 = 4096 * (t * t * (t * t)) := by rw [h2, g1]; grind
    have g3 : 1 - n * x3 = 16777216 * (t * t * (t * t) * (t * t * (t * t))) := by rw [h3, g2]; grind
    generalize t * t * (t * t) * (t * t * (t * t)) = u at g3
    have g4 : 1 - n * x4 = 281474976710656 * (u * u) := by rw [h4, g3]; grind
    have g5 : 1 - n * x5 = 281474976710656 * 281474976710656 * (u * u * (u * u)) := by rw [h5, g4]; grind
    have z : (281474976710656 * 281474976710656 : UInt64) = 0 := by decide
    rw [z] at g5
    grind
  have hf : invO n = - invS n (invS n (invS n (invS n (invS n n)))) := by
    unfold invO
    have := u64_sub 0 (by decide) (invS n (invS n (invS n (invS n (invS n n)))))
    rw [show ((0 : Nat) : Int) = 0 from rfl] at this
    rw [this]
    show (0 : UInt64) - _ = _
    grind
  have hy : invO n * n = -1 := by rw [hf]; grind
  have := congrArg UInt64.toNat hy
  rw [UInt64.toNat_mul] at this
  rw [this]
  decide
end Go.Proofs.Ytaloefkkllebeaa
