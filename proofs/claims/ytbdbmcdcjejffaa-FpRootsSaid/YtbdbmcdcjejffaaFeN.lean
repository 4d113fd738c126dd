/- Powers by digits; inverses. -/
import Derived.Test.YtbdbmcdcjejffaaFeM
set_option linter.unusedVariables false
set_option linter.unusedSimpArgs false
set_option linter.unusedSectionVars false
namespace Go.Sh

/-- The numbers that elements are raised to. -/
inductive PowK where
  | less2
  | half
  | quarter

def PowK.digits : PowK → List Nat
  | .less2 => [1,10,0,1,1,1,14,10,3,9,7,15,14,6,9,10,4,11,1,11,10,7,11,6,4,3,4,11,10,12,13,7,6,4,7,7,4,11,8,4,15,3,8,5,1,2,11,15,6,7,3,0,13,2,10,0,15,6,11,0,15,6,2,4,1,14,10,11,15,15,15,14,11,1,5,3,15,15,15,15,11,9,15,14,15,15,15,15,15,15,15,15,10,10,10,9]
  | .half => [13,0,0,8,8,15,5,1,12,11,15,15,3,4,13,2,5,8,13,13,3,13,11,2,1,10,5,13,6,6,11,11,2,3,11,10,5,12,2,7,9,12,2,8,9,5,15,11,3,9,8,6,9,5,0,7,11,5,8,7,11,1,2,0,15,5,5,15,15,15,15,5,8,10,9,15,15,15,15,13,12,15,15,7,15,15,15,15,15,15,15,13,5,5,5]
  | .quarter => [6,8,0,4,4,7,10,8,14,5,15,15,9,10,6,9,2,12,6,14,9,14,13,9,0,13,2,14,11,3,5,13,9,1,13,13,2,14,1,3,12,14,1,4,4,10,15,13,9,12,12,3,4,10,8,3,13,10,12,3,13,8,9,0,7,10,10,15,15,15,15,10,12,5,4,15,15,15,15,14,14,7,15,11,15,15,15,15,15,15,15,14,10,10,11]
def digitB (d : Nat) : UInt8 := if d < 10 then UInt8.ofNat (48 + d) else UInt8.ofNat (87 + d)
def PowK.bytes (k : PowK) : List UInt8 := k.digits.map digitB
def PowK.val (k : PowK) : Value := .string ⟨k.bytes.toArray⟩

def powkParse (b : ByteArray) : Option PowK :=
  if b.data.toList = PowK.less2.bytes then some .less2 else if b.data.toList = PowK.half.bytes then some .half else if b.data.toList = PowK.quarter.bytes then some .quarter else none

theorem powkParse_ok {b : ByteArray} {k : PowK} (h : powkParse b = some k) : Value.string b = k.val := by
  have key : ∀ {k : PowK}, b.data.toList = k.bytes → Value.string b = k.val := by
    intro k e
    obtain ⟨⟨l⟩⟩ := b
    have e : l = k.bytes := e
    subst e
    rfl
  unfold powkParse at h
  split at h
  · simp at h; subst h; exact key (by assumption)
  · split at h
    · simp at h; subst h; exact key (by assumption)
    · split at h
      · simp at h; subst h; exact key (by assumption)
      · cases h

instance : Arg A PowK where
  G := Unit
  good _ _ _ := True
  tv _ k := .val false [.v k.val]
  val _ k := k.val
  is _ _ := LIs.of_single ⟨rfl, rfl⟩
  parse _ _ t := match t with | .val false [.v (.string b)] => (match powkParse b with | some k => some (k, []) | none => none) | _ => none
  ok := by
    intro c X W0 W β m t x vc v h _ _ e
    split at h
    · split at h
      · rename_i k hk
        simp at h
        obtain ⟨rfl, rfl⟩ := h
        obtain ⟨e1, _⟩ := LIs.single (e : LIs β _ [v])
        simp at e1
        exact ⟨(), trivial, by rw [e1]; exact powkParse_ok hk⟩
      · cases h
    · cases h
end Go.Sh

namespace Go.Proofs.Ytbdbmcdcjejffaa
open Go Go.Sh

/-- A power by digits, as the program takes it. -/
def tblPow (a : Fp) : Nat → Fp
  | 0 => 1
  | k + 1 => tblPow a k * a
def sqF (z : Fp) : Fp := z * z
def powStep (a out : Fp) (d : Nat) : Fp := match d with | 0 => sqF (sqF (sqF (sqF out))) | d + 1 => sqF (sqF (sqF (sqF out))) * tblPow a (d + 1)
def powD (a : Fp) (out : Fp) : List Nat → Fp
  | [] => out
  | d :: l => powD a (powStep a out d) l
def powS (a : Fp) : List Nat → Fp
  | [] => 1
  | 0 :: l => powD a 1 l
  | (d + 1) :: l => powD a (1 * tblPow a (d + 1)) l

def tblV : List (Row A) := [rowOf A 45 (fun x : Fp × Fp × Unit => x.1 * x.2.1), rowOf A 47 (fun x : Fp × Unit => sqF x.1), rowOf A 163 (fun _ : Unit => (1 : Fp))]
theorem tblV_ok : TblOK Try.prog tblV := .cons mul_ok.row (.cons sq_ok.row (.cons one_ok.row (.nil _)))

theorem powerS_less2 (a : Fp) (old : Addr → Option Value) : (run (cfg Try.prog tblV (fun _ _ => .keep) old) 100 Try.f161 (Args.tvs (Γ := Fp × PowK × Unit) ((), (), ()) (a, .less2, ())) []).map (retOf (R := Fp)) = some (some (powS a PowK.less2.digits), []) := by kernel_rfl
theorem powerS_half (a : Fp) (old : Addr → Option Value) : (run (cfg Try.prog tblV (fun _ _ => .keep) old) 100 Try.f161 (Args.tvs (Γ := Fp × PowK × Unit) ((), (), ()) (a, .half, ())) []).map (retOf (R := Fp)) = some (some (powS a PowK.half.digits), []) := by kernel_rfl
theorem powerS_quarter (a : Fp) (old : Addr → Option Value) : (run (cfg Try.prog tblV (fun _ _ => .keep) old) 100 Try.f161 (Args.tvs (Γ := Fp × PowK × Unit) ((), (), ()) (a, .quarter, ())) []).map (retOf (R := Fp)) = some (some (powS a PowK.quarter.digits), []) := by kernel_rfl
theorem powerS_ok : Computes A Try.prog 161 (fun x : Fp × PowK × Unit => powS x.1 x.2.1.digits) := by
  refine computes_of_run0 tblV_ok Try.func161 (by kernel_rfl) (by kernel_rfl) 100 ?_
  rintro ⟨⟨⟩, ⟨⟩, ⟨⟩⟩ ⟨a, k, ⟨⟩⟩ W
  cases k
  · exact powerS_less2 a _
  · exact powerS_half a _
  · exact powerS_quarter a _

/-! ### Powers -/
def fpow (a : Fp) (n : Nat) : Fp := ⟨a.val ^ n % pN, Nat.mod_lt _ (by decide)⟩
theorem fpow_zero (a : Fp) : fpow a 0 = 1 := by apply Fin.ext; show a.val ^ 0 % pN = 1 % pN; rw [Nat.pow_zero]
theorem fpow_one (a : Fp) : fpow a 1 = a := by apply Fin.ext; show a.val ^ 1 % pN = a.val; rw [Nat.pow_one, Nat.mod_eq_of_lt a.isLt]
theorem fpow_add (a : Fp) (m n : Nat) : fpow a (m + n) = fpow a m * fpow a n := by
  apply Fin.ext
  show a.val ^ (m + n) % pN = (a.val ^ m % pN * (a.val ^ n % pN)) % pN
  rw [Nat.pow_add, Nat.mul_mod]
theorem fpow_succ (a : Fp) (n : Nat) : fpow a (n + 1) = fpow a n * a := by rw [fpow_add, fpow_one]
theorem fpow_mul (a : Fp) (m n : Nat) : fpow a (m * n) = fpow (fpow a m) n := by
  apply Fin.ext
  show a.val ^ (m * n) % pN = (a.val ^ m % pN) ^ n % pN
  rw [Nat.pow_mul, ← Nat.pow_mod]
theorem mul_fpow (a b : Fp) (n : Nat) : fpow (a * b) n = fpow a n * fpow b n := by
  apply Fin.ext
  show (a * b).val ^ n % pN = (a.val ^ n % pN * (b.val ^ n % pN)) % pN
  rw [show (a * b).val = a.val * b.val % pN from Fin.val_mul a b, ← Nat.pow_mod, Nat.mul_pow, Nat.mul_mod]
theorem one_fpow (n : Nat) : fpow 1 n = 1 := by
  apply Fin.ext
  show (1 % pN) ^ n % pN = 1 % pN
  rw [Nat.mod_eq_of_lt (show 1 < pN by decide), Nat.one_pow, Nat.mod_eq_of_lt (show 1 < pN by decide)]
theorem zero_fpow {n : Nat} (h : 0 < n) : fpow 0 n = 0 := by
  obtain ⟨k, rfl⟩ : ∃ k, n = k + 1 := ⟨n - 1, by omega⟩
  rw [fpow_succ, Fin.mul_zero]

theorem fermatF {a : Fp} (h : a ≠ 0) : fpow a (pN - 1) = 1 := by
  apply Fin.ext
  show a.val ^ (pN - 1) % pN = 1 % pN
  have hv : a.val ≠ 0 := fun e => h (Fin.ext e)
  rw [fermat prime_p (fun hd => hv (Nat.eq_zero_of_dvd_of_lt hd a.isLt)), Nat.mod_eq_of_lt (show 1 < pN by decide)]

theorem mul_eq_zeroF {a b : Fp} (h : a * b = 0) : a = 0 ∨ b = 0 := by
  have e : (a.val * b.val) % pN = 0 := by
    have := congrArg Fin.val h
    rw [Fin.val_mul] at this
    exact this
  rcases Prime.dvd_mul prime_p (Nat.dvd_of_mod_eq_zero e) with hd | hd
  · exact .inl (Fin.ext (Nat.eq_zero_of_dvd_of_lt hd a.isLt))
  · exact .inr (Fin.ext (Nat.eq_zero_of_dvd_of_lt hd b.isLt))

def hexN (l : List Nat) : Nat := l.foldl (fun n d => 16 * n + d) 0

theorem tblPow_eq (a : Fp) : ∀ k, tblPow a k = fpow a k
  | 0 => (fpow_zero a).symm
  | k + 1 => by rw [tblPow, tblPow_eq a k, fpow_succ]
theorem sqF_eq (z : Fp) : sqF z = fpow z 2 := by rw [sqF, show (2 : Nat) = 1 + 1 from rfl, fpow_add, fpow_one]
theorem powStep_eq (a out : Fp) (d : Nat) : powStep a out d = fpow out 16 * fpow a d := by
  have h : sqF (sqF (sqF (sqF out))) = fpow out 16 := by
    simp only [sqF_eq, ← fpow_mul]
  cases d with
  | zero => simp only [powStep]; rw [h, fpow_zero, Fin.mul_one]
  | succ d => simp only [powStep]; rw [h, tblPow_eq]
theorem powD_eq (a : Fp) : ∀ (l : List Nat) (n : Nat), powD a (fpow a n) l = fpow a (l.foldl (fun n d => 16 * n + d) n)
  | [], n => rfl
  | d :: l, n => by
    have : powStep a (fpow a n) d = fpow a (16 * n + d) := by rw [powStep_eq, ← fpow_mul, ← fpow_add, Nat.mul_comm]
    simp only [powD, List.foldl_cons]
    rw [this, powD_eq a l]
theorem powS_eq (a : Fp) (l : List Nat) : powS a l = fpow a (hexN l) := by
  match l with
  | [] => exact (fpow_zero a).symm
  | 0 :: l =>
    have := powD_eq a l 0
    rw [fpow_zero] at this
    exact this
  | (d + 1) :: l =>
    have := powD_eq a l (d + 1)
    simp only [powS]
    rw [Fin.one_mul, tblPow_eq, this]
    simp [hexN]

def PowK.n : PowK → Nat
  | .less2 => pN - 2
  | .half => (pN - 1) / 2
  | .quarter => (pN + 1) / 4
theorem PowK.hex (k : PowK) : hexN k.digits = PowK.n k := by cases k <;> kernel_rfl
theorem power_ok : Computes A Try.prog 161 (fun x : Fp × PowK × Unit => fpow x.1 (PowK.n x.2.1)) :=
  Computes.eq powerS_ok (fun x => by rw [powS_eq, PowK.hex])

def invF (a : Fp) : Fp := fpow a (pN - 2)
theorem mul_invF {a : Fp} (h : a ≠ 0) : a * invF a = 1 := by
  have := fermatF h
  rw [show pN - 1 = 1 + (pN - 2) from by rw [pN_val], fpow_add, fpow_one] at this
  exact this
theorem invF_zero : invF 0 = 0 := zero_fpow (by rw [pN_val]; omega)

theorem inv_ok : Computes A Try.prog 50 (fun x : Fp × Unit => invF x.1) :=
  Computes.eq (f := fun x : Fp × Unit => fpow x.1 (PowK.n .less2)) (computes_of_run0 (.cons power_ok.row (.nil _)) Try.func50 (by kernel_rfl) (by kernel_rfl) 4 (fun _ _ _ => by kernel_rfl)) (fun _ => rfl)

end Go.Proofs.Ytbdbmcdcjejffaa
