/- The law of products. -/
import Derived.Test.YtaloefkkllebeaaLi8
set_option linter.unusedVariables false
set_option linter.unusedSimpArgs false
set_option linter.unusedSectionVars false
namespace Go.Proofs.Ytaloefkkllebeaa
open Go Go.Sh
def eqW (f g : Nat → UInt64) : Nat → Nat → Bool
  | 0, _ => true
  | n + 1, i => ((f i).toNat : Int) == ((g i).toNat : Int) && eqW f g n (i + 1)
theorem eqW_self (f : Nat → UInt64) : ∀ n i, eqW f f n i = true
  | 0, _ => rfl
  | n + 1, i => by simp [eqW, eqW_self f n (i + 1)]
/-- Without the highest bit. -/
def halfT (a : Num) : Num := numO ((numL a).1, (numL a).2.1, (numL a).2.2.1, (numL a).2.2.2.1, (numL a).2.2.2.2.1, UInt64.ofNat ((numL a).2.2.2.2.2.toNat / 2 ^ min 1 IntKind.u64.bits))
section
variable (M : Num → Num → R64 12) (P : Num → Num → Num) (C : Num → Num → Bool)
def tblPr : List (Row A) :=
  [rowOf A 13 (fun _ : Unit => true), rowOf A 19 (fun x : Num × Num × Unit => M x.1 x.2.1), rowOf A 20 (fun x : Num × Num × Unit => M x.1 x.2.1), rowOf A 14 (fun x : Num × Num × Unit => T2.mk (P x.1 x.2.1) (Cy.mk (C x.1 x.2.1)))]
end
def prSt (a b c s : Num) (T X Y Z : Nat → UInt64) (cy : Bool) (w : UInt64) (z : Int) : St A :=
  ⟨slots 0 92 [(3, .val false [.p 0 0]), (4, .val false [.p 1 0]), (5, .val false [.p 2 0]), (6, .val false [.v (.bool false)]), (7, .val false [.p 3 0]), (8, .val false [.p 4 0]), (9, .val false [.a (.cy cy)]), (10, .val false [.p 5 0]), (11, .val false [.p 6 0]), (12, .val false [.p 7 0]), (13, .val false [.a (.u64 w)]), (14, .val false [.n .i64 z])],
   [some ⟨[.a (.big (.num a))], 23, false⟩, some ⟨[.a (.big (.num b))], 23, false⟩, some ⟨[.a (.big (.num c))], 23, false⟩, some ⟨[.a (.w64 12 T)], 31, false⟩, some ⟨[.a (.big (.num s))], 23, false⟩,
    some ⟨[.a (.w64 12 X)], 31, false⟩, some ⟨[.a (.w64 12 Y)], 31, false⟩, some ⟨[.a (.w64 12 Z)], 31, false⟩], 0, [], []⟩
theorem pr_round (old : Addr → Option Value) (a b c s : Num) (T X Y Z : Nat → UInt64) (cy : Bool) (w : UInt64) (z : Int) (n m : UInt64) (b1 b2 : Bool) (hn : n = u64 ((X z.toNat).toNat + (Y z.toNat).toNat)) (hm : m = u64 (n.toNat + w.toNat)) (w1 : WrapI (z + 1)) (w2 : (((m.toNat : Int) != (Z z.toNat).toNat) : Bool) = false) (w3 : Idx z 12)
    (w4 : decide ((m.toNat : Int) < n.toNat) = b2) (w5 : decide ((n.toNat : Int) < (X z.toNat).toNat) = b1) (w6 : decide (z < 12) = true)
    {k : Cfg A} (e1 : k.P = Try.prog) (e2 : k.gl = (fun _ => none)) (e3 : k.old = old) (e4 : k.ys = []) : Round k (loopNo Try.f4 11) (prSt a b c s T X Y Z cy w z) .normal (prSt a b c s T X Y Z cy (UInt64.ofNat (cond (b1 || b2) 1 0)) (z + 1)) := by
  subst hm hn
  cases b1 <;> cases b2
  · exact Round.of0 (TblOK.nil _) (says [(59, true), (73, false), (79, false), (84, false)]) 8 [WrapI (z + 1), (((u64 ((u64 ((X z.toNat).toNat + (Y z.toNat).toNat)).toNat + w.toNat)).toNat : Int) != (Z z.toNat).toNat) = false, Idx z 12, decide (((u64 ((u64 ((X z.toNat).toNat + (Y z.toNat).toNat)).toNat + w.toNat)).toNat : Int) < (u64 ((X z.toNat).toNat + (Y z.toNat).toNat)).toNat) = false, decide (((u64 ((X z.toNat).toNat + (Y z.toNat).toNat)).toNat : Int) < (X z.toNat).toNat) = false, Idx z 12, Idx z 12, Idx z 12, decide (z < 12) = true] (by kernel_rfl) ⟨w1, w2, w3, w4, w5, w3, w3, w3, w6, trivial⟩ (by kernel_rfl) (by kernel_rfl) e1 e2 e3 e4
  · exact Round.of0 (TblOK.nil _) (says [(59, true), (73, false), (79, true), (84, false)]) 8 [WrapI (z + 1), (((u64 ((u64 ((X z.toNat).toNat + (Y z.toNat).toNat)).toNat + w.toNat)).toNat : Int) != (Z z.toNat).toNat) = false, Idx z 12, decide (((u64 ((u64 ((X z.toNat).toNat + (Y z.toNat).toNat)).toNat + w.toNat)).toNat : Int) < (u64 ((X z.toNat).toNat + (Y z.toNat).toNat)).toNat) = true, decide (((u64 ((X z.toNat).toNat + (Y z.toNat).toNat)).toNat : Int) < (X z.toNat).toNat) = false, Idx z 12, Idx z 12, Idx z 12, decide (z < 12) = true] (by kernel_rfl) ⟨w1, w2, w3, w4, w5, w3, w3, w3, w6, trivial⟩ (by kernel_rfl) (by kernel_rfl) e1 e2 e3 e4
  · exact Round.of0 (TblOK.nil _) (says [(59, true), (73, true), (79, false), (84, false)]) 8 [WrapI (z + 1), (((u64 ((u64 ((X z.toNat).toNat + (Y z.toNat).toNat)).toNat + w.toNat)).toNat : Int) != (Z z.toNat).toNat) = false, Idx z 12, decide (((u64 ((u64 ((X z.toNat).toNat + (Y z.toNat).toNat)).toNat + w.toNat)).toNat : Int) < (u64 ((X z.toNat).toNat + (Y z.toNat).toNat)).toNat) = false, decide (((u64 ((X z.toNat).toNat + (Y z.toNat).toNat)).toNat : Int) < (X z.toNat).toNat) = true, Idx z 12, Idx z 12, Idx z 12, decide (z < 12) = true] (by kernel_rfl) ⟨w1, w2, w3, w4, w5, w3, w3, w3, w6, trivial⟩ (by kernel_rfl) (by kernel_rfl) e1 e2 e3 e4
  · exact Round.of0 (TblOK.nil _) (says [(59, true), (73, true), (79, true), (84, false)]) 8 [WrapI (z + 1), (((u64 ((u64 ((X z.toNat).toNat + (Y z.toNat).toNat)).toNat + w.toNat)).toNat : Int) != (Z z.toNat).toNat) = false, Idx z 12, decide (((u64 ((u64 ((X z.toNat).toNat + (Y z.toNat).toNat)).toNat + w.toNat)).toNat : Int) < (u64 ((X z.toNat).toNat + (Y z.toNat).toNat)).toNat) = true, decide (((u64 ((X z.toNat).toNat + (Y z.toNat).toNat)).toNat : Int) < (X z.toNat).toNat) = true, Idx z 12, Idx z 12, Idx z 12, decide (z < 12) = true] (by kernel_rfl) ⟨w1, w2, w3, w4, w5, w3, w3, w3, w6, trivial⟩ (by kernel_rfl) (by kernel_rfl) e1 e2 e3 e4

/-- What is carried into place k. -/
def carryAt (X Y k : Nat) : Nat := (X % 18446744073709551616 ^ k + Y % 18446744073709551616 ^ k) / 18446744073709551616 ^ k
theorem carry_step (X Y k : Nat) : carryAt X Y (k + 1) = (X / 18446744073709551616 ^ k % 18446744073709551616 + Y / 18446744073709551616 ^ k % 18446744073709551616 + carryAt X Y k) / 18446744073709551616 ∧
    (X + Y) / 18446744073709551616 ^ k % 18446744073709551616 = (X / 18446744073709551616 ^ k % 18446744073709551616 + Y / 18446744073709551616 ^ k % 18446744073709551616 + carryAt X Y k) % 18446744073709551616 ∧ carryAt X Y k ≤ 1 := by
  unfold carryAt
  rw [Nat.pow_succ]
  have hp : 0 < (18446744073709551616 : Nat) ^ k := Nat.pow_pos (by decide)
  generalize (18446744073709551616 : Nat) ^ k = B at *
  have hX := Nat.div_add_mod X B
  have hY := Nat.div_add_mod Y B
  have hx : X % B < B := Nat.mod_lt _ hp
  have hy : Y % B < B := Nat.mod_lt _ hp
  rw [Nat.mod_mul, Nat.mod_mul]
  generalize X / B = x at *
  generalize Y / B = y at *
  generalize X % B = p at *
  generalize Y % B = q at *
  have h1 : (p + B * (x % 18446744073709551616) + (q + B * (y % 18446744073709551616))) = p + q + B * (x % 18446744073709551616 + y % 18446744073709551616) := by rw [Nat.mul_add]; omega
  have h2 : X + Y = p + q + B * (x + y) := by rw [Nat.mul_add]; omega
  refine ⟨?_, ?_, ?_⟩
  · rw [h1, ← Nat.div_div_eq_div_mul, Nat.add_mul_div_left _ _ hp]
    congr 1
    omega
  · rw [h2, Nat.add_mul_div_left _ _ hp]
    omega
  · have : (p + q) / B < 2 := Nat.div_lt_of_lt_mul (by omega)
    omega
theorem u64_two (a b : UInt64) : (u64 ((a.toNat : Int) + (b.toNat : Int))).toNat = (a.toNat + b.toNat) % 18446744073709551616 := by
  have : ((a.toNat : Int) + (b.toNat : Int)) = ((a.toNat + b.toNat : Nat) : Int) := by simp
  rw [this, u64_nat]
theorem pr_loop (old : Addr → Option Value) (a b c s : Num) (T : Nat → UInt64) (x y z : R64 12) (cy : Bool) (hz : v12 z = v12 x + v12 y) :
    SoundFor Try.prog old [] (.loop (loopNo Try.f4 11)) (prSt a b c s T x.f y.f z.f cy (UInt64.ofNat 0) 0) (.exit 0) (prSt a b c s T x.f y.f z.f cy (UInt64.ofNat 0) 12) := by
  have hv := valW_lt z.list
  have hl : z.list.length = 12 := by simp [R64.list]
  rw [hl] at hv
  have hv : v12 z < 18446744073709551616 ^ 12 := hv
  have c0 : carryAt (v12 x) (v12 y) 0 = 0 := by unfold carryAt; rw [Nat.pow_zero, Nat.mod_one, Nat.mod_one]
  have c12 : carryAt (v12 x) (v12 y) 12 = 0 := by
    have hx : v12 x < 18446744073709551616 ^ 12 := Nat.lt_of_le_of_lt (by omega) hv
    have hy : v12 y < 18446744073709551616 ^ 12 := Nat.lt_of_le_of_lt (by omega) hv
    unfold carryAt
    rw [Nat.mod_eq_of_lt hx, Nat.mod_eq_of_lt hy, ← hz]
    exact Nat.div_eq_of_lt hv
  have h : SoundFor Try.prog old [] (.loop (loopNo Try.f4 11)) (prSt a b c s T x.f y.f z.f cy (UInt64.ofNat (carryAt (v12 x) (v12 y) 0)) ((0 : Nat) : Int)) (.exit 0) (prSt a b c s T x.f y.f z.f cy (UInt64.ofNat (carryAt (v12 x) (v12 y) 12)) ((12 : Nat) : Int)) := by
    intro k e1 e2 e3 e4
    refine loopAt (inv := fun j => prSt a b c s T x.f y.f z.f cy (UInt64.ofNat (carryAt (v12 x) (v12 y) j)) (j : Int)) (N := 12) (by simp) (fun j hj => ?_) ?_
    · obtain ⟨s1, s2, s3⟩ := carry_step (v12 x) (v12 y) j
      have hx := v12_word x j hj
      have hy := v12_word y j hj
      have hzw := v12_word z j hj
      rw [hz, s2, ← hx, ← hy] at hzw
      rw [← hx, ← hy] at s1
      have hw : (UInt64.ofNat (carryAt (v12 x) (v12 y) j)).toNat = carryAt (v12 x) (v12 y) j := UInt64.toNat_ofNat_of_lt' (show _ < 18446744073709551616 by omega)
      have hn := u64_two (x.f j) (y.f j)
      have hm : (u64 ((u64 ((x.f j).toNat + (y.f j).toNat)).toNat + (UInt64.ofNat (carryAt (v12 x) (v12 y) j)).toNat)).toNat = (((x.f j).toNat + (y.f j).toNat) % 18446744073709551616 + carryAt (v12 x) (v12 y) j) % 18446744073709551616 := by rw [u64_two, hn, hw]
      have bx := (x.f j).toNat_lt
      have by' := (y.f j).toNat_lt
      have hc : carryAt (v12 x) (v12 y) (j + 1) = cond (decide (((u64 ((x.f j).toNat + (y.f j).toNat)).toNat : Int) < (x.f j).toNat) || decide (((u64 ((u64 ((x.f j).toNat + (y.f j).toNat)).toNat + (UInt64.ofNat (carryAt (v12 x) (v12 y) j)).toNat)).toNat : Int) < (u64 ((x.f j).toNat + (y.f j).toNat)).toNat)) 1 0 := by
        rw [s1, hm, hn]
        generalize carryAt (v12 x) (v12 y) j = cj at *
        generalize (x.f j).toNat = xj at *
        generalize (y.f j).toNat = yj at *
        by_cases h1 : (((xj + yj) % 18446744073709551616 : Nat) : Int) < (xj : Int)
        · rw [decide_eq_true h1, Bool.true_or, cond_true]; omega
        · rw [decide_eq_false h1, Bool.false_or]
          by_cases h2 : ((((xj + yj) % 18446744073709551616 + cj) % 18446744073709551616 : Nat) : Int) < (((xj + yj) % 18446744073709551616 : Nat) : Int)
          · rw [decide_eq_true h2, cond_true]; omega
          · rw [decide_eq_false h2, cond_false]; omega
      rw [hc, show ((j + 1 : Nat) : Int) = (j : Int) + 1 by omega]
      refine pr_round old a b c s T x.f y.f z.f cy _ (j : Int) _ _ _ _ rfl rfl (wrapI (by omega) (by omega)) ?_ ⟨by omega, by omega⟩ rfl rfl (decide_eq_true (by omega)) e1 e2 e3 e4
      show (((u64 ((u64 ((x.f j).toNat + (y.f j).toNat)).toNat + (UInt64.ofNat (carryAt (v12 x) (v12 y) j)).toNat)).toNat : Int) != (z.f j).toNat) = false
      rw [hm, hzw]
      have : (((x.f j).toNat + (y.f j).toNat) % 18446744073709551616 + carryAt (v12 x) (v12 y) j) % 18446744073709551616 = ((x.f j).toNat + (y.f j).toNat + carryAt (v12 x) (v12 y) j) % 18446744073709551616 := by omega
      rw [this]
      simp
    · generalize UInt64.ofNat (carryAt (v12 x) (v12 y) 12) = w
      obtain ⟨X⟩ := x
      obtain ⟨Y⟩ := y
      obtain ⟨Z⟩ := z
      exact Round.of0 (TblOK.nil _) (says [(59, false)]) 8 [decide (((12 : Nat) : Int) < 12) = false] (by kernel_rfl) ⟨by decide, trivial⟩ (by kernel_rfl) (by kernel_rfl) e1 e2 e3 e4
  rw [c0, c12] at h
  exact h
theorem products_of (M : Num → Num → R64 12) (P : Num → Num → Num) (C : Num → Num → Bool) (ht : TblOK Try.prog (tblPr M P C)) (h1 : ∀ a b, M a b = M b a) (h2 : ∀ a b c, v12 (M (P (halfT a) (halfT b)) c) = v12 (M (halfT a) c) + v12 (M (halfT b) c)) (h3 : ∀ a b, C (halfT a) (halfT b) = false) :
    Computes A Try.prog 4 (fun _ : Num × Num × Num × Unit => true) := by
  refine computes_of_runW ht (ITblOK.nil _) Try.func4 (by kernel_rfl) (by kernel_rfl) 8 ?_
  rintro _ ⟨a, b, c, ⟨⟩⟩ W0 -
  have hs := pr_loop W0.cell? (halfT a) (halfT b) c (P (halfT a) (halfT b)) (M a b).f (M (halfT a) c) (M (halfT b) c) (M (P (halfT a) (halfT b)) c) (C (halfT a) (halfT b)) (h2 a b c)
  have e1 : (!eqW (M a b).f (M a b).f 12 0) = false := by rw [eqW_self]; rfl
  have e2 : (!eqW (M a b).f (M b a).f 12 0) = false := by rw [h1 b a, eqW_self]; rfl
  refine ⟨saysY [(27, false), (33, false)], lps [(11, prSt (halfT a) (halfT b) c (P (halfT a) (halfT b)) (M a b).f (M (halfT a) c).f (M (halfT b) c).f (M (P (halfT a) (halfT b)) c).f (C (halfT a) (halfT b)) (UInt64.ofNat 0) 0, .exit 0, prSt (halfT a) (halfT b) c (P (halfT a) (halfT b)) (M a b).f (M (halfT a) c).f (M (halfT b) c).f (M (P (halfT a) (halfT b)) c).f (C (halfT a) (halfT b)) (UInt64.ofNat 0) 12)],
    true, [(((UInt64.ofNat 0).toNat : Int) == 0) = true, ((cond (C (halfT a) (halfT b)) 1 0 : Int) == 0) = true, ToldIs (prSt (halfT a) (halfT b) c (P (halfT a) (halfT b)) (M a b).f (M (halfT a) c).f (M (halfT b) c).f (M (P (halfT a) (halfT b)) c).f (C (halfT a) (halfT b)) (UInt64.ofNat 0) 0), (!eqW (M a b).f (M b a).f 12 0) = false, (!eqW (M a b).f (M a b).f 12 0) = false, true = true],
    by kernel_rfl, ⟨rfl, by rw [h3]; rfl, toldIs _, e2, e1, rfl, trivial⟩, rfl, fun body hb => ?_⟩
  refine LoopsFor.cons ?_ hs LoopsFor.nil
  obtain rfl := Option.some.inj hb
  kernel_rfl
theorem halfT_lt (a : Num) : 2 * (halfT a).val < 39402006196394479212279040100143613805079739270465446667948293404245721771497210611414266254884915640806627990306816 := by
  have h : (halfT a).val = val6 ((numL a).1, (numL a).2.1, (numL a).2.2.1, (numL a).2.2.2.1, (numL a).2.2.2.2.1, UInt64.ofNat ((numL a).2.2.2.2.2.toNat / 2 ^ min 1 IntKind.u64.bits)) := rfl
  have e : (2 : Nat) ^ min 1 IntKind.u64.bits = 2 := by decide
  rw [h, e]
  generalize numL a = L
  obtain ⟨a0, a1, a2, a3, a4, a5⟩ := L
  have h0 := a0.toNat_lt; have h1 := a1.toNat_lt; have h2 := a2.toNat_lt; have h3 := a3.toNat_lt; have h4 := a4.toNat_lt; have h5 := a5.toNat_lt
  simp only [val6]
  rw [UInt64.toNat_ofNat_of_lt' (show a5.toNat / 2 < 18446744073709551616 by omega)]
  omega
theorem limbsProducts_ok : Computes A Try.prog 4 (fun _ : Num × Num × Num × Unit => true) := by
  refine products_of (fun a b => n12 (a.val * b.val)) addF carryN (.cons known2_ok.row (.cons limbsMul_ok.row (.cons refTimes_ok.row (.cons limbsAdd_ok.row (.nil _))))) (fun a b => by rw [Nat.mul_comm]) (fun a b c => ?_) (fun a b => ?_)
  · have ha := halfT_lt a
    have hb := halfT_lt b
    have hs : (halfT a + halfT b).val = (halfT a).val + (halfT b).val := by
      rw [Fin.val_add]
      exact Nat.mod_eq_of_lt (by omega)
    have small : ∀ x y : Num, v12 (n12 (x.val * y.val)) = x.val * y.val := fun x y => by
      rw [v12_n12]
      refine Nat.mod_eq_of_lt ?_
      rw [pow768]
      exact Nat.mul_lt_mul'' x.isLt y.isLt
    show v12 (n12 ((halfT a + halfT b).val * c.val)) = v12 (n12 ((halfT a).val * c.val)) + v12 (n12 ((halfT b).val * c.val))
    rw [small, small, small, hs, Nat.add_mul]
  · have ha := halfT_lt a
    have hb := halfT_lt b
    exact decide_eq_false (by omega)
end Go.Proofs.Ytaloefkkllebeaa
