/- Commutative rings, of our own; sums; the binomial law; powers by a prime where its multiples vanish. -/
import Derived.Test.YtbdbmcdcjejffaaGd1
set_option linter.unusedVariables false
set_option linter.unusedSimpArgs false
set_option linter.unusedSectionVars false
namespace Go.Proofs.Ytbdbmcdcjejffaa
open Go Go.Sh

/-- A commutative ring. -/
class CR (X : Type) where
  o : X
  i : X
  p : X → X → X
  m : X → X → X
  n : X → X
  pC : ∀ a b, p a b = p b a
  pA : ∀ a b c, p (p a b) c = p a (p b c)
  p0 : ∀ a, p a o = a
  pN : ∀ a, p a (n a) = o
  mC : ∀ a b, m a b = m b a
  mA : ∀ a b c, m (m a b) c = m a (m b c)
  m1 : ∀ a, m a i = a
  mD : ∀ a b c, m a (p b c) = p (m a b) (m a c)

namespace CR
variable {X : Type} [CR X]
theorem p0' (a : X) : p o a = a := by rw [pC, p0]
theorem m1' (a : X) : m i a = a := by rw [mC, m1]
theorem mD' (a b c : X) : m (p a b) c = p (m a c) (m b c) := by rw [mC, mD, mC c a, mC c b]
theorem pcan {a b c : X} (h : p a b = p a c) : b = c := by
  have := congrArg (p (n a)) h
  rw [← pA, ← pA, pC (n a) a, pN, p0', p0'] at this
  exact this
theorem m0 (a : X) : m a o = o := by
  have h : p (m a o) (m a o) = p (m a o) o := by rw [← mD, p0, p0]
  exact pcan h
theorem m0' (a : X) : m o a = o := by rw [mC, m0]
theorem neg_of {a b : X} (h : p a b = o) : b = n a := pcan (a := a) (by rw [h, pN])
theorem mN (a b : X) : m a (n b) = n (m a b) := neg_of (by rw [← mD, pN, m0])
theorem mN' (a b : X) : m (n a) b = n (m a b) := by rw [mC, mN, mC]
theorem nn (a : X) : n (n a) = a := (neg_of (by rw [pC, pN])).symm
theorem nP (a b : X) : n (p a b) = p (n a) (n b) := (neg_of (by
  rw [pA, pC (n a), ← pA b, pN, p0', pN])).symm
theorem pL (a b c : X) : p a (p b c) = p b (p a c) := by rw [← pA, pC a, pA]
theorem mL (a b c : X) : m a (m b c) = m b (m a c) := by rw [← mA, mC a, mA]
theorem n0 : n (o : X) = o := (neg_of (p0 o)).symm

/-- Powers; multiples; sums. -/
def pw (a : X) (k : Nat) : X := gpow i m a k
theorem pw0 (a : X) : pw a 0 = i := rfl
theorem pwS (a : X) (k : Nat) : pw a (k + 1) = m (pw a k) a := rfl
theorem pw1 (a : X) : pw a 1 = a := m1' a
theorem pw_add (a : X) (j k : Nat) : pw a (j + k) = m (pw a j) (pw a k) := gpow_add m1 mA a j k
theorem i_pw : ∀ k, pw (i : X) k = i
  | 0 => rfl
  | k + 1 => by rw [pwS, i_pw k, m1]
theorem m_pw (a b : X) : ∀ k, pw (m a b) k = m (pw a k) (pw b k)
  | 0 => (m1 _).symm
  | k + 1 => by rw [pwS, m_pw a b k, pwS, pwS, mA, mA, mL (pw b k) a b]
theorem pw_mul (a : X) (j : Nat) : ∀ k, pw a (j * k) = pw (pw a j) k
  | 0 => rfl
  | k + 1 => by rw [Nat.mul_succ, pw_add, pw_mul a j k, pwS]
theorem o_pw {k : Nat} (h : 0 < k) : pw (o : X) k = o := by
  obtain ⟨j, rfl⟩ : ∃ j, k = j + 1 := ⟨k - 1, by omega⟩
  rw [pwS, m0]
def nm : Nat → X → X
  | 0, _ => o
  | k + 1, a => p (nm k a) a
theorem nm0 (a : X) : nm 0 a = o := rfl
theorem nmS (k : Nat) (a : X) : nm (k + 1) a = p (nm k a) a := rfl
theorem nm1 (a : X) : nm 1 a = a := p0' a
theorem nm_add (a : X) (j : Nat) : ∀ k, nm (j + k) a = p (nm j a) (nm k a)
  | 0 => (p0 _).symm
  | k + 1 => by show p (nm (j + k) a) a = _; rw [nm_add a j k, pA]; rfl
theorem nm_m (k : Nat) (a b : X) : m (nm k a) b = nm k (m a b) := by
  induction k with
  | zero => exact m0' b
  | succ k ih => rw [nmS, mD', ih]; rfl
theorem nm_mul (a : X) (j : Nat) : ∀ k, nm (j * k) a = nm k (nm j a)
  | 0 => rfl
  | k + 1 => by rw [Nat.mul_succ, nm_add, nm_mul a j k]; rfl
theorem nm_o : ∀ k, nm k (o : X) = o
  | 0 => rfl
  | k + 1 => by rw [nmS, nm_o k, p0]
def sm (f : Nat → X) : Nat → X
  | 0 => o
  | k + 1 => p (sm f k) (f k)
theorem sm_p (f g : Nat → X) : ∀ k, sm (fun j => p (f j) (g j)) k = p (sm f k) (sm g k)
  | 0 => (p0 o).symm
  | k + 1 => by
    show p (sm _ k) (p (f k) (g k)) = p (p (sm f k) (f k)) (p (sm g k) (g k))
    rw [sm_p f g k, pA, pA, pL (sm g k)]
theorem sm_m (f : Nat → X) (a : X) : ∀ k, m (sm f k) a = sm (fun j => m (f j) a) k
  | 0 => m0' a
  | k + 1 => by show m (p (sm f k) (f k)) a = p _ _; rw [mD', sm_m f a k]
theorem sm_head (f : Nat → X) : ∀ k, sm f (k + 1) = p (f 0) (sm (fun j => f (j + 1)) k)
  | 0 => by show p o (f 0) = p (f 0) o; rw [pC]
  | k + 1 => by
    show p (sm f (k + 1)) (f (k + 1)) = p (f 0) (p (sm (fun j => f (j + 1)) k) (f (k + 1)))
    rw [sm_head f k, pA]
theorem sm_congr {f g : Nat → X} : ∀ {k}, (∀ j, j < k → f j = g j) → sm f k = sm g k
  | 0, _ => rfl
  | k + 1, h => by show p _ _ = p _ _; rw [sm_congr (fun j hj => h j (by omega)), h k (by omega)]
theorem sm_o : ∀ k, sm (fun _ => (o : X)) k = o
  | 0 => rfl
  | k + 1 => by show p _ _ = _; rw [sm_o k, p0]
end CR

/-- Pascal's numbers. -/
def cho : Nat → Nat → Nat
  | _, 0 => 1
  | 0, _ + 1 => 0
  | n + 1, k + 1 => cho n k + cho n (k + 1)
theorem cho_zero : ∀ n, cho n 0 = 1
  | 0 => rfl
  | _ + 1 => rfl
theorem cho_big : ∀ {n k}, n < k → cho n k = 0
  | 0, k + 1, _ => rfl
  | n + 1, k + 1, h => by show cho n k + cho n (k + 1) = 0; rw [cho_big (show n < k by omega), cho_big (show n < k + 1 by omega)]
theorem cho_self : ∀ n, cho n n = 1
  | 0 => rfl
  | n + 1 => by show cho n n + cho n (n + 1) = 1; rw [cho_self n, cho_big (Nat.lt_succ_self n)]
theorem cho_mul : ∀ n k, (k + 1) * cho (n + 1) (k + 1) = (n + 1) * cho n k
  | 0, 0 => rfl
  | 0, k + 1 => by
    show (k + 1 + 1) * (cho 0 (k + 1) + cho 0 (k + 1 + 1)) = _
    rw [cho_big (show 0 < k + 1 by omega), cho_big (show 0 < k + 1 + 1 by omega)]; simp
  | n + 1, 0 => by
    have h := cho_mul n 0
    rw [cho_zero] at h
    show (0 + 1) * (cho (n + 1) 0 + cho (n + 1) (0 + 1)) = _
    rw [cho_zero]
    omega
  | n + 1, k + 1 => by
    have h1 := cho_mul n k
    have h2 := cho_mul n (k + 1)
    show (k + 1 + 1) * (cho (n + 1) (k + 1) + cho (n + 1) (k + 1 + 1)) = (n + 1 + 1) * cho (n + 1) (k + 1)
    have e : cho (n + 1) (k + 1) = cho n k + cho n (k + 1) := rfl
    have h3 : (k + 1 + 1) * cho (n + 1) (k + 1) = (k + 1) * cho (n + 1) (k + 1) + cho (n + 1) (k + 1) := by rw [Nat.succ_mul]
    have h4 : (n + 1 + 1) * cho (n + 1) (k + 1) = (n + 1) * cho (n + 1) (k + 1) + cho (n + 1) (k + 1) := by rw [Nat.succ_mul]
    have h5 : (n + 1) * cho (n + 1) (k + 1) = (n + 1) * cho n k + (n + 1) * cho n (k + 1) := by rw [e, Nat.mul_add]
    rw [Nat.mul_add, h2, h3, h1, h4, h5]
    omega
theorem cho_dvd {q : Nat} (hq : Prime q) {k : Nat} (h0 : 0 < k) (h1 : k < q) : q ∣ cho q k := by
  obtain ⟨j, rfl⟩ : ∃ j, k = j + 1 := ⟨k - 1, by omega⟩
  obtain ⟨r, rfl⟩ : ∃ r, q = r + 1 := ⟨q - 1, by omega⟩
  have h := cho_mul r j
  have hd : r + 1 ∣ (j + 1) * cho (r + 1) (j + 1) := ⟨_, h⟩
  rcases Prime.dvd_mul hq hd with h2 | h2
  · exact absurd (Nat.le_of_dvd (by omega) h2) (by omega)
  · exact h2

namespace CR
variable {X : Type} [CR X]
def bin (a b : X) (n k : Nat) : X := nm (cho n k) (m (pw a (n - k)) (pw b k))
theorem binomial (a b : X) : ∀ n, pw (p a b) n = sm (bin a b n) (n + 1)
  | 0 => by
    show i = p o (nm (cho 0 0) (m i i))
    rw [p0', cho_zero, nm1, m1]
  | n + 1 => by
    rw [pwS, binomial a b n, mD, sm_m, sm_m]
    have e1 : sm (fun j => m (bin a b n j) a) (n + 1) = sm (fun k => nm (cho n k) (m (pw a (n + 1 - k)) (pw b k))) (n + 2) := by
      show _ = p (sm _ (n + 1)) (nm (cho n (n + 1)) _)
      rw [cho_big (Nat.lt_succ_self n), nm0, p0]
      refine sm_congr (fun j hj => ?_)
      show m (nm _ _) a = _
      rw [nm_m, show n + 1 - j = (n - j) + 1 by omega, pwS, mA, mC (pw b j) a, ← mA]
    have e2 : sm (fun j => m (bin a b n j) b) (n + 1) = sm (fun k => nm (cho n k) (m (pw a (n + 1 - (k + 1))) (pw b (k + 1)))) (n + 1) := by
      refine sm_congr (fun j hj => ?_)
      show m (nm _ _) b = _
      rw [nm_m, show n + 1 - (j + 1) = n - j by omega, pwS, mA]
    rw [e1, e2, sm_head _ (n + 1), sm_head (bin a b (n + 1)) (n + 1)]
    show p (p (nm (cho n 0) _) _) _ = p (nm (cho (n + 1) 0) _) _
    rw [cho_zero, cho_zero, pA, ← sm_p]
    congr 1
    refine sm_congr (fun j hj => ?_)
    show p (nm (cho n (j + 1)) _) (nm (cho n j) _) = nm (cho n j + cho n (j + 1)) _
    rw [nm_add, pC]
/-- Powers by a prime go through sums where its multiples vanish. -/
theorem dream {q : Nat} (hq : Prime q) (h1 : 0 < q) (hc : ∀ a : X, nm q a = o) (a b : X) : pw (p a b) q = p (pw a q) (pw b q) := by
  rw [binomial, sm_head]
  obtain ⟨r, rfl⟩ : ∃ r, q = r + 1 := ⟨q - 1, by omega⟩
  show p (bin a b (r + 1) 0) (p (sm (fun j => bin a b (r + 1) (j + 1)) r) (bin a b (r + 1) (r + 1))) = _
  have e : sm (fun j => bin a b (r + 1) (j + 1)) r = o := by
    rw [sm_congr (g := fun _ => o) (fun j hj => ?_), sm_o]
    obtain ⟨t, ht⟩ := cho_dvd hq (k := j + 1) (by omega) (by omega)
    show nm (cho (r + 1) (j + 1)) _ = o
    rw [ht, nm_mul, hc, nm_o]
  rw [e, p0']
  show p (nm (cho (r + 1) 0) (m (pw a (r + 1 - 0)) (pw b 0))) (nm (cho (r + 1) (r + 1)) (m (pw a (r + 1 - (r + 1))) (pw b (r + 1)))) = _
  rw [cho_zero, cho_self, nm1, nm1, pw0, m1, Nat.sub_self, pw0, m1', Nat.sub_zero]
end CR
end Go.Proofs.Ytbdbmcdcjejffaa
