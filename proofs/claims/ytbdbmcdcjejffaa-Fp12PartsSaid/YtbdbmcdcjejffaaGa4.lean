/- Fp2: it is a field; its squares and their roots; plain mathematics, and the contracts of the roots. -/
import Derived.Test.YtbdbmcdcjejffaaGa3
set_option linter.unusedVariables false
set_option linter.unusedSimpArgs false
set_option linter.unusedSectionVars false
namespace Go.Proofs.Ytbdbmcdcjejffaa
open Go Go.Sh

theorem ext2 {a b : F2} (h1 : a.1 = b.1) (h2 : a.2 = b.2) : a = b := Prod.ext h1 h2
theorem add2_comm (a b : F2) : add2 a b = add2 b a := ext2 (by simp only [add2]; grind) (by simp only [add2]; grind)
theorem add2_assoc (a b c : F2) : add2 (add2 a b) c = add2 a (add2 b c) := ext2 (by simp only [add2]; grind) (by simp only [add2]; grind)
theorem mul2_comm (a b : F2) : mul2 a b = mul2 b a := ext2 (by simp only [mul2]; grind) (by simp only [mul2]; grind)
theorem mul2_assoc (a b c : F2) : mul2 (mul2 a b) c = mul2 a (mul2 b c) := ext2 (by simp only [mul2]; grind) (by simp only [mul2]; grind)
theorem mul2_add (a b c : F2) : mul2 a (add2 b c) = add2 (mul2 a b) (mul2 a c) := ext2 (by simp only [mul2, add2]; grind) (by simp only [mul2, add2]; grind)
theorem mul2_one (a : F2) : mul2 a one2 = a := ext2 (by simp only [mul2, one2]; grind) (by simp only [mul2, one2]; grind)
theorem add2_zero (a : F2) : add2 a zero2 = a := ext2 (by simp only [add2, zero2]; grind) (by simp only [add2, zero2]; grind)
theorem add2_neg (a : F2) : add2 a (neg2 a) = zero2 := ext2 (by simp only [add2, neg2, zero2]; grind) (by simp only [add2, neg2, zero2]; grind)
theorem sub2_eq (a b : F2) : sub2 a b = add2 a (neg2 b) := ext2 (by simp only [add2, neg2, sub2]; grind) (by simp only [add2, neg2, sub2]; grind)
theorem sub2_add (a b : F2) : add2 (sub2 a b) b = a := ext2 (by simp only [add2, sub2]; grind) (by simp only [add2, sub2]; grind)
theorem mul2_zero (a : F2) : mul2 a zero2 = zero2 := ext2 (by simp only [mul2, zero2]; grind) (by simp only [mul2, zero2]; grind)
theorem xi2_mul (a : F2) : xi2 a = mul2 a (1, 1) := ext2 (by simp only [mul2, xi2]; grind) (by simp only [mul2, xi2]; grind)
theorem scale2_mul (a : F2) (c : Fp) : scale2 a c = mul2 a (c, 0) := ext2 (by simp only [mul2, scale2]; grind) (by simp only [mul2, scale2]; grind)
theorem conj2_mul (a b : F2) : conj2 (mul2 a b) = mul2 (conj2 a) (conj2 b) := ext2 (by simp only [mul2, conj2]; grind) (by simp only [mul2, conj2]; grind)
theorem conj2_add (a b : F2) : conj2 (add2 a b) = add2 (conj2 a) (conj2 b) := ext2 (by simp only [add2, conj2]) (by simp only [add2, conj2]; grind)
theorem norm2_mul (a b : F2) : norm2 (mul2 a b) = norm2 a * norm2 b := by simp only [norm2, mul2]; grind
theorem mul2_conj (a : F2) : mul2 a (conj2 a) = (norm2 a, 0) := ext2 (by simp only [mul2, conj2, norm2]; grind) (by simp only [mul2, conj2]; grind)

theorem half_sq {x : Fp} (h : x ≠ 0) : fpow (x * x) (PowK.n .half) = 1 := by rw [mul_fpow, half_split h]
theorem sum_sq {x y : Fp} (h : x * x + y * y = 0) : x = 0 ∧ y = 0 := by
  by_cases hy : y = 0
  · subst hy
    have : x * x = 0 := by grind
    rcases mul_eq_zeroF this with e | e <;> exact ⟨e, rfl⟩
  · exfalso
    have h1 : x * x = -(y * y) := by grind
    have hx : x ≠ 0 := by
      intro e
      subst e
      have : y * y = 0 := by grind
      rcases mul_eq_zeroF this with e | e <;> exact hy e
    have h2 := half_sq hx
    rw [h1, half_neg, half_sq hy] at h2
    exact one_ne h2.symm
theorem norm2_zero {a : F2} (h : norm2 a = 0) : a = zero2 := by
  obtain ⟨h1, h2⟩ := sum_sq h
  exact ext2 h1 h2
theorem norm2_ne {a : F2} (h : a ≠ zero2) : norm2 a ≠ 0 := fun e => h (norm2_zero e)
theorem mul2_inv {a : F2} (h : a ≠ zero2) : mul2 a (inv2 a) = one2 := by
  have hn := mul_invF (norm2_ne h)
  obtain ⟨i, hi⟩ : ∃ i, i = invF (norm2 a) := ⟨_, rfl⟩
  rw [← hi] at hn
  refine ext2 ?_ ?_
  · simp only [mul2, inv2, one2, ← hi]
    simp only [norm2] at hn
    grind
  · simp only [mul2, inv2, one2, ← hi]
    grind
theorem inv2_zero : inv2 zero2 = zero2 := ext2 (by simp only [inv2, zero2]; grind) (by simp only [inv2, zero2]; grind)
theorem mul2_eq_zero {a b : F2} (h : mul2 a b = zero2) : a = zero2 ∨ b = zero2 := by
  have h1 := norm2_mul a b
  rw [h] at h1
  have h2 : norm2 zero2 = 0 := by simp only [norm2, zero2]; grind
  rw [h2] at h1
  rcases mul_eq_zeroF h1.symm with e | e
  · exact .inl (norm2_zero e)
  · exact .inr (norm2_zero e)
theorem sq2_eq {a b : F2} (h : mul2 a a = mul2 b b) : a = b ∨ a = neg2 b := by
  have : mul2 (sub2 a b) (add2 a b) = zero2 := by
    have h1 := congrArg Prod.fst h
    have h2 := congrArg Prod.snd h
    simp only [mul2] at h1 h2
    refine ext2 ?_ ?_
    · simp only [mul2, sub2, add2, zero2]; grind
    · simp only [mul2, sub2, add2, zero2]; grind
  rcases mul2_eq_zero this with e | e
  · left
    have h1 := congrArg Prod.fst e
    have h2 := congrArg Prod.snd e
    simp only [sub2, zero2] at h1 h2
    exact ext2 (by grind) (by grind)
  · right
    have h1 := congrArg Prod.fst e
    have h2 := congrArg Prod.snd e
    simp only [add2, zero2] at h1 h2
    exact ext2 (by simp only [neg2]; grind) (by simp only [neg2]; grind)

/-! ### Roots -/
def hF : Fp := TxK.half.fp
theorem two_half : (1 + 1) * hF = 1 := by kernel_rfl
theorem half_inv : invF (fpOf 2) = hF := by
  have h1 := two_inv
  have h2 := two_half
  grind

abbrev root2 (a : F2) : T2 F2 Bool := rootW sqrtF (fun a => decide (a = 0)) (fun a => -a) invF (fun a b => a + b) (fun a b => a - b) (fun a b => a * b) norm2 hF a
abbrev cand2 (a : F2) : F2 := candW sqrtF (fun a => decide (a = 0)) (fun a => -a) invF (fun a b => a + b) (fun a b => a - b) (fun a b => a * b) norm2 hF a
def sqrt2 (a : F2) : T2 F2 Bool := if (root2 a).b = true then (if large2 (root2 a).a = true then T2.mk (neg2 (root2 a).a) true else T2.mk (root2 a).a true) else T2.mk zero2 false

theorem sqrt_b {a : Fp} : (sqrtF a).b = true ↔ legF a ≥ 0 := by rw [← sqrt_leg]; simp
theorem sqrt_ne {a : Fp} (h : a ≠ 0) (hb : (sqrtF a).b = true) : (sqrtF a).a ≠ 0 := by
  intro e
  have := (sqrt_right a hb).1
  rw [e] at this
  exact h (by grind)

theorem root_of_delta {a1 a2 n h x y : Fp} (h1 : (1 + 1) * h = 1) (h2 : n * n = a1 * a1 + a2 * a2) (h3 : x * x = (a1 + n) * h) (h4 : x * y = 1) :
    x * x - a2 * h * y * (a2 * h * y) = a1 ∧ x * (a2 * h * y) + a2 * h * y * x = a2 := by
  constructor
  · have e1 : a2 * h * (a2 * h) = -((a1 + n) * h * ((a1 - n) * h)) := by grind
    have e2 : a2 * h * y * (a2 * h * y) = a2 * h * (a2 * h) * (y * y) := by grind
    have e3 : x * x * (y * y) = 1 := by
      have : x * x * (y * y) = x * y * (x * y) := by grind
      rw [this, h4]
      exact Fin.mul_one 1
    have e4 : a2 * h * y * (a2 * h * y) = -((a1 - n) * h) := by
      rw [e2, e1, ← h3]
      have : -(x * x * ((a1 - n) * h)) * (y * y) = -(x * x * (y * y) * ((a1 - n) * h)) := by grind
      rw [this, e3]
      grind
    rw [e4, h3]
    grind
  · have e1 : x * (a2 * h * y) + a2 * h * y * x = (1 + 1) * h * (x * y) * a2 := by grind
    rw [e1, h1, h4]
    grind

/-- Of the two halves just one is a square. -/
theorem deltas {a1 a2 n : Fp} (h2 : n * n = a1 * a1 + a2 * a2) (ha : a2 ≠ 0) : (a1 + n) * hF ≠ 0 ∧ (a1 - n) * hF ≠ 0 ∧ ((sqrtF ((a1 + n) * hF)).b = false → (sqrtF ((a1 - n) * hF)).b = true) := by
  have hh := two_half
  have hh0 : hF ≠ 0 := by intro e; rw [e] at hh; exact one_ne0 (by grind)
  have hp : (a1 + n) * hF * ((a1 - n) * hF) = -(a2 * hF * (a2 * hF)) := by grind
  have ha2 : a2 * hF ≠ 0 := by intro e; rcases mul_eq_zeroF e with e | e; exact ha e; exact hh0 e
  have hne : (a1 + n) * hF * ((a1 - n) * hF) ≠ 0 := by
    rw [hp]
    intro e
    have : a2 * hF * (a2 * hF) = 0 := by grind
    rcases mul_eq_zeroF this with e | e <;> exact ha2 e
  have h3 : (a1 + n) * hF ≠ 0 := fun e => hne (by rw [e]; grind)
  have h4 : (a1 - n) * hF ≠ 0 := fun e => hne (by rw [e]; grind)
  refine ⟨h3, h4, fun hb => ?_⟩
  have h5 : fpow ((a1 + n) * hF) (PowK.n .half) * fpow ((a1 - n) * hF) (PowK.n .half) = -1 := by rw [← mul_fpow, hp, half_neg, half_sq ha2]
  rw [sqrt_b]
  have h6 : ¬ legF ((a1 + n) * hF) ≥ 0 := fun h => by rw [← sqrt_b, hb] at h; cases h
  rcases legF_cases ((a1 + n) * hF) with ⟨e, _⟩ | ⟨_, e1, e⟩ | ⟨_, e1, e⟩
  · exact absurd e h3
  · rw [e] at h6; exact absurd (show (1 : Int) ≥ 0 by decide) h6
  · rw [e1] at h5
    rcases legF_cases ((a1 - n) * hF) with ⟨f, _⟩ | ⟨_, f1, f⟩ | ⟨_, f1, f⟩
    · exact absurd f h4
    · rw [f]; exact (show (1 : Int) ≥ 0 by decide)
    · rw [f1] at h5
      exact absurd (by grind : (1 : Fp) = -1) one_ne

section
variable {S : Fp → T2 Fp Bool} {Z : Fp → Bool} {N I : Fp → Fp} {P D M : Fp → Fp → Fp} {Nm : F2 → Fp} {h a1 a2 : Fp}
theorem rootW1 (hz : Z a2 = true) (hb : (S a1).b = true) : rootW S Z N I P D M Nm h (a1, a2) = ⟨((S a1).a, 0), true⟩ ∧ candW S Z N I P D M Nm h (a1, a2) = ((S a1).a, 0) := by simp only [rootW, candW, hz, hb, cond_true, and_self]
theorem rootW2 (hz : Z a2 = true) (hb : (S a1).b = false) : rootW S Z N I P D M Nm h (a1, a2) = ⟨(0, (S (N a1)).a), (S (N a1)).b⟩ ∧ candW S Z N I P D M Nm h (a1, a2) = (0, (S (N a1)).a) := by simp only [rootW, candW, hz, hb, cond_true, cond_false, and_self]
theorem rootW3 (hz : Z a2 = false) {n : Fp} (hn : n = (S (Nm (a1, a2))).a) (hb : (S (Nm (a1, a2))).b = true) (hx : (S (M (P a1 n) h)).b = true) : rootW S Z N I P D M Nm h (a1, a2) = ⟨((S (M (P a1 n) h)).a, M (M a2 h) (I (S (M (P a1 n) h)).a)), true⟩ ∧ candW S Z N I P D M Nm h (a1, a2) = ((S (M (P a1 n) h)).a, M (M a2 h) (I (S (M (P a1 n) h)).a)) := by
  simp only [rootW, candW, hz, hb, ← hn, hx, cond_true, cond_false, and_self]
theorem rootW4 (hz : Z a2 = false) {n : Fp} (hn : n = (S (Nm (a1, a2))).a) (hb : (S (Nm (a1, a2))).b = true) (hx : (S (M (P a1 n) h)).b = false) : rootW S Z N I P D M Nm h (a1, a2) = ⟨((S (M (D a1 n) h)).a, M (M a2 h) (I (S (M (D a1 n) h)).a)), (S (M (D a1 n) h)).b⟩ ∧ candW S Z N I P D M Nm h (a1, a2) = ((S (M (D a1 n) h)).a, M (M a2 h) (I (S (M (D a1 n) h)).a)) := by
  simp only [rootW, candW, hz, hb, ← hn, hx, cond_true, cond_false, and_self]
theorem rootW5 (hz : Z a2 = false) (hb : (S (Nm (a1, a2))).b = false) : rootW S Z N I P D M Nm h (a1, a2) = ⟨(0, 0), false⟩ := by simp only [rootW, hz, hb, cond_false]
end

theorem sq_real {x a : Fp} (h : x * x = a) : mul2 (x, 0) (x, 0) = (a, 0) := ext2 (by simp only [mul2]; grind) (by simp only [mul2]; grind)
theorem sq_imag {x a : Fp} (h : x * x = -a) : mul2 (0, x) (0, x) = (a, 0) := ext2 (by simp only [mul2]; grind) (by simp only [mul2]; grind)
theorem sq_parts {x y a b : Fp} (h1 : x * x - y * y = a) (h2 : x * y + y * x = b) : mul2 (x, y) (x, y) = (a, b) := ext2 h1 h2

/-- What a root that is found is. -/
def RootIs (R : F2 → T2 F2 Bool) (C : F2 → F2) (ok : Bool) (a : F2) : Prop := (R a).b = ok ∧ ((R a).b = true → (R a).a = C a ∧ mul2 (C a) (C a) = a)
theorem rootIs_of {R : F2 → T2 F2 Bool} {C : F2 → F2} {ok : Bool} {a c : F2} {b : Bool} (h1 : R a = ⟨c, b⟩ ∧ C a = c) (h2 : b = ok) (h3 : mul2 c c = a) : RootIs R C ok a := by
  obtain ⟨e1, e2⟩ := h1
  unfold RootIs
  rw [e1, e2]
  exact ⟨h2, fun _ => ⟨rfl, h3⟩⟩
theorem rootIs_no {R : F2 → T2 F2 Bool} {C : F2 → F2} {a c : F2} (h1 : R a = ⟨c, false⟩) : RootIs R C false a := by
  unfold RootIs
  rw [h1]
  exact ⟨rfl, fun h => by cases h⟩
theorem root_a {a1 : Fp} (hb : (sqrtF a1).b = true) : RootIs root2 cand2 true (a1, 0) :=
  rootIs_of (rootW1 (S := sqrtF) (Z := fun a => decide (a = 0)) (N := fun a => -a) (I := invF) (P := fun a b => a + b) (D := fun a b => a - b) (M := fun a b => a * b) (Nm := norm2) (h := hF) (a1 := a1) (a2 := 0) (decide_eq_true rfl) hb) rfl (sq_real (sqrt_right a1 hb).1)
theorem neg_sq {a1 : Fp} (hb : (sqrtF a1).b = false) : (sqrtF (-a1)).b = true := by
  have hl : ¬ legF a1 ≥ 0 := fun h => by rw [← sqrt_b, hb] at h; cases h
  rw [sqrt_b]
  rcases legF_cases a1 with ⟨e, f⟩ | ⟨_, _, f⟩ | ⟨hne, e, f⟩
  · rw [f] at hl; exact absurd (Int.le_refl 0) hl
  · rw [f] at hl; exact absurd (show (1 : Int) ≥ 0 by decide) hl
  · rcases legF_cases (-a1) with ⟨g, _⟩ | ⟨_, _, g⟩ | ⟨_, g1, g⟩
    · exact absurd (by grind : a1 = 0) hne
    · rw [g]; exact (show (1 : Int) ≥ 0 by decide)
    · rw [half_neg, e] at g1
      exact absurd (by grind : (1 : Fp) = -1) one_ne
theorem root_b {a1 : Fp} (hb : (sqrtF a1).b = false) : RootIs root2 cand2 true (a1, 0) :=
  rootIs_of (rootW2 (S := sqrtF) (Z := fun a => decide (a = 0)) (N := fun a => -a) (I := invF) (P := fun a b => a + b) (D := fun a b => a - b) (M := fun a b => a * b) (Nm := norm2) (h := hF) (a1 := a1) (a2 := 0) (decide_eq_true rfl) hb) (neg_sq hb) (sq_imag (sqrt_right (-a1) (neg_sq hb)).1)
theorem root_c {a1 a2 n : Fp} (hz : a2 ≠ 0) (hn : n = (sqrtF (norm2 (a1, a2))).a) (hb : (sqrtF (norm2 (a1, a2))).b = true) (hnn : n * n = a1 * a1 + a2 * a2) (hx : (sqrtF ((a1 + n) * hF)).b = true) : RootIs root2 cand2 true (a1, a2) := by
  obtain ⟨d1, _, _⟩ := deltas hnn hz
  obtain ⟨r1, r2⟩ := root_of_delta two_half hnn (sqrt_right _ hx).1 (mul_invF (sqrt_ne d1 hx))
  exact rootIs_of (rootW3 (S := sqrtF) (Z := fun a => decide (a = 0)) (N := fun a => -a) (I := invF) (P := fun a b => a + b) (D := fun a b => a - b) (M := fun a b => a * b) (Nm := norm2) (h := hF) (a1 := a1) (a2 := a2) (decide_eq_false hz) hn hb hx) rfl (sq_parts r1 r2)
theorem root_d {a1 a2 n : Fp} (hz : a2 ≠ 0) (hn : n = (sqrtF (norm2 (a1, a2))).a) (hb : (sqrtF (norm2 (a1, a2))).b = true) (hnn : n * n = a1 * a1 + a2 * a2) (hx : (sqrtF ((a1 + n) * hF)).b = false) : RootIs root2 cand2 true (a1, a2) := by
  obtain ⟨_, d2, d3⟩ := deltas hnn hz
  have hy := d3 hx
  have hm : (-n) * (-n) = a1 * a1 + a2 * a2 := by rw [← hnn]; grind
  have e : (a1 - n) * hF = (a1 + -n) * hF := by grind
  obtain ⟨r1, r2⟩ := root_of_delta two_half hm ((sqrt_right _ hy).1.trans e) (mul_invF (sqrt_ne d2 hy))
  exact rootIs_of (rootW4 (S := sqrtF) (Z := fun a => decide (a = 0)) (N := fun a => -a) (I := invF) (P := fun a b => a + b) (D := fun a b => a - b) (M := fun a b => a * b) (Nm := norm2) (h := hF) (a1 := a1) (a2 := a2) (decide_eq_false hz) hn hb hx) hy (sq_parts r1 r2)
theorem root_e {a1 a2 : Fp} (hz : a2 ≠ 0) (hb : (sqrtF (norm2 (a1, a2))).b = false) : RootIs root2 cand2 false (a1, a2) :=
  rootIs_no (rootW5 (S := sqrtF) (Z := fun a => decide (a = 0)) (N := fun a => -a) (I := invF) (P := fun a b => a + b) (D := fun a b => a - b) (M := fun a b => a * b) (Nm := norm2) (h := hF) (a1 := a1) (a2 := a2) (decide_eq_false hz) hb)
theorem root2_spec (a : F2) : RootIs root2 cand2 (decide (a.2 = 0) || (sqrtF (norm2 a)).b) a := by
  obtain ⟨a1, a2⟩ := a
  by_cases hz : a2 = 0
  · subst hz
    have e : (decide (((a1, 0) : F2).2 = 0) || (sqrtF (norm2 (a1, 0))).b) = true := by rw [show decide (((a1, 0) : F2).2 = 0) = true from decide_eq_true rfl, Bool.true_or]
    rw [e]
    cases hb : (sqrtF a1).b
    · exact root_b hb
    · exact root_a hb
  · have e : (decide (((a1, a2) : F2).2 = 0) || (sqrtF (norm2 (a1, a2))).b) = (sqrtF (norm2 (a1, a2))).b := by rw [show decide (((a1, a2) : F2).2 = 0) = false from decide_eq_false hz, Bool.false_or]
    rw [e]
    cases hb : (sqrtF (norm2 (a1, a2))).b
    · exact root_e hz hb
    · cases hx : (sqrtF ((a1 + (sqrtF (norm2 (a1, a2))).a) * hF)).b
      · exact root_d hz rfl hb (sqrt_right _ hb).1 hx
      · exact root_c hz rfl hb (sqrt_right _ hb).1 hx

theorem root2_ok : Computes A Try.prog 181 (fun x : F2 × Unit => root2 x.1) :=
  root2_of sqrtF (fun a => decide (a = 0)) (fun a => -a) invF (fun a b => a + b) (fun a b => a - b) (fun a b => a * b) norm2 TxK.fp (.cons isZero_ok.row (.cons sqrt_ok.row (.cons neg_ok.row (.cons inv_ok.row (.cons add_ok.row (.cons sub_ok.row (.cons mul_ok.row (.cons norm2_ok.row (.cons text_ok.row (.nil _))))))))))
theorem sqrt2_ok : Computes A Try.prog 134 (fun x : F2 × Unit => sqrt2 x.1) :=
  sqrt2_of root2 large2 neg2 (.cons root2_ok.row (.cons large2_ok.row (.cons neg2_ok.row (.nil _))))
theorem rSqrt2_ok : Computes A Try.prog 135 (fun x : F2 × Unit => sqrt2 x.1) :=
  Computes.eq (rSqrt2_of sqrtF (fun a => decide (a = 0)) (fun a => -a) invF (fun a b => a + b) (fun a b => a - b) (fun a b => a * b) norm2 fpOf mul2 large2 neg2 (.cons refIsZero_ok.row (.cons refSqrt_ok.row (.cons refNeg_ok.row (.cons refInv_ok.row (.cons refFAdd_ok.row (.cons refFSub_ok.row (.cons refMul_ok.row (.cons rNorm2_ok.row (.cons refSmall_ok.row (.cons rMul2_ok.row (.cons rLarge2_ok.row (.cons rNeg2_ok.row (.nil _)))))))))))))) (fun x => by
    obtain ⟨h1, h2⟩ := root2_spec x.1
    rw [half_inv]
    unfold sqrt2
    by_cases hb : (root2 x.1).b = true
    · obtain ⟨h3, h4⟩ := h2 hb
      rw [if_pos hb, h3]
      have hc : (!decide (x.1.2 = 0) && !(sqrtF (norm2 x.1)).b) = false := by
        rw [hb] at h1
        rw [← Bool.not_or, ← h1]; rfl
      have h5 : eqE (mul2 (cand2 x.1) (cand2 x.1)) x.1 = true := by rw [h4, eqE_eq]; exact decide_eq_true rfl
      rw [hc]
      simp only [cond_false, tryW, h5, cond_true]
      cases large2 (cand2 x.1) <;> rfl
    · have hb' : (root2 x.1).b = false := by simpa using hb
      rw [if_neg hb]
      have hc : (!decide (x.1.2 = 0) && !(sqrtF (norm2 x.1)).b) = true := by
        rw [hb'] at h1
        rw [← Bool.not_or, ← h1]; rfl
      rw [hc]; rfl)

end Go.Proofs.Ytbdbmcdcjejffaa
