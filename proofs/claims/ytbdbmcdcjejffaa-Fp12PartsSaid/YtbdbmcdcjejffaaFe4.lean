/- Powers by digits; inverses. -/
import Derived.Test.YtbdbmcdcjejffaaFe3
set_option linter.unusedVariables false
set_option linter.unusedSimpArgs false
set_option linter.unusedSectionVars false
namespace Go.Sh

/-- The numbers that elements are raised to. -/
inductive PowK where
  | less2
  | half
  | quarter

def PowK.digits : PowK → List Nat
  | .less2 => [1,10,0,1,1,1,14,10,3,9,7,15,14,6,9,10,4,11,1,11,10,7,11,6,4,3,4,11,10,12,13,7,6,4,7,7,4,11,8,4,15,3,8,5,1,2,11,15,6,7,3,0,13,2,10,0,15,6,11,0,15,6,2,4,1,14,10,11,15,15,15,14,11,1,5,3,15,15,15,15,11,9,15,14,15,15,15,15,15,15,15,15,10,10,10,9]
  | .half => [13,0,0,8,8,15,5,1,12,11,15,15,3,4,13,2,5,8,13,13,3,13,11,2,1,10,5,13,6,6,11,11,2,3,11,10,5,12,2,7,9,12,2,8,9,5,15,11,3,9,8,6,9,5,0,7,11,5,8,7,11,1,2,0,15,5,5,15,15,15,15,5,8,10,9,15,15,15,15,13,12,15,15,7,15,15,15,15,15,15,15,13,5,5,5]
  | .quarter => [6,8,0,4,4,7,10,8,14,5,15,15,9,10,6,9,2,12,6,14,9,14,13,9,0,13,2,14,11,3,5,13,9,1,13,13,2,14,1,3,12,14,1,4,4,10,15,13,9,12,12,3,4,10,8,3,13,10,12,3,13,8,9,0,7,10,10,15,15,15,15,10,12,5,4,15,15,15,15,14,14,7,15,11,15,15,15,15,15,15,15,14,10,10,11]
def digitB (d : Nat) : UInt8 := if d < 10 then UInt8.ofNat (48 + d) else UInt8.ofNat (87 + d)
def PowK.bytes (k : PowK) : List UInt8 := k.digits.map digitB
def PowK.val (k : PowK) : Value := .string ⟨k.bytes.toArray⟩

def powkParse (b : ByteArray) : Option PowK :=
  if b.data.toList = PowK.less2.bytes then some .less2 else if b.data.toList = PowK.half.bytes then some .half else if b.data.toList = PowK.quarter.bytes then some .quarter else none

theorem powkParse_ok {b : ByteArray} {k : PowK} (h : powkParse b = some k) : Value.string b = k.val := by
  have key : ∀ {k : PowK}, b.data.toList = k.bytes → Value.string b = k.val := by
    intro k e
    obtain ⟨⟨l⟩⟩ := b
    have e : l = k.bytes := e
    subst e
    rfl
  unfold powkParse at h
  split at h
  · simp at h; subst h; exact key (by assumption)
  · split at h
    · simp at h; subst h; exact key (by assumption)
    · split at h
      · simp at h; subst h; exact key (by assumption)
      · cases h

instance : Arg A PowK where
  G := Unit
  good _ _ _ := True
  tv _ k := .val false [.v k.val]
  val _ k := k.val
  is _ _ := LIs.of_single ⟨rfl, rfl⟩
  parse _ _ t := match t with | .val false [.v (.string b)] => (match powkParse b with | some k => some (k, []) | none => none) | _ => none
  ok := by
    intro c X W0 W β m t x vc v h _ _ e
    split at h
    · split at h
      · rename_i k hk
        simp at h
        obtain ⟨rfl, rfl⟩ := h
        obtain ⟨e1, _⟩ := LIs.single (e : LIs β _ [v])
        simp at e1
        exact ⟨(), trivial, by rw [e1]; exact powkParse_ok hk⟩
      · cases h
    · cases h
end Go.Sh

namespace Go.Proofs.Ytbdbmcdcjejffaa
open Go Go.Sh

/-- A power by digits, as the program takes it. -/
def tblPow (a : Fp) : Nat → Fp
  | 0 => 1
  | k + 1 => tblPow a k * a
def sqF (z : Fp) : Fp := z * z
def powStep (a out : Fp) (d : Nat) : Fp := match d with | 0 => sqF (sqF (sqF (sqF out))) | d + 1 => sqF (sqF (sqF (sqF out))) * tblPow a (d + 1)
def powD (a : Fp) (out : Fp) : List Nat → Fp
  | [] => out
  | d :: l => powD a (powStep a out d) l
def powS (a : Fp) : List Nat → Fp
  | [] => 1
  | 0 :: l => powD a 1 l
  | (d + 1) :: l => powD a (1 * tblPow a (d + 1)) l

def tblV : List (Row A) := [rowOf A 45 (fun x : Fp × Fp × Unit => x.1 * x.2.1), rowOf A 47 (fun x : Fp × Unit => sqF x.1), rowOf A 163 (fun _ : Unit => (1 : Fp))]
theorem tblV_ok : TblOK Try.prog tblV := .cons mul_ok.row (.cons sq_ok.row (.cons one_ok.row (.nil _)))

theorem powerS_less2 (a : Fp) (old : Addr → Option Value) : (run (cfg Try.prog tblV (fun _ _ => .keep) old) 100 Try.f161 (Args.tvs (Γ := Fp × PowK × Unit) ((), (), ()) (a, .less2, ())) []).map (retOf (R := Fp)) = some (some (powS a PowK.less2.digits), []) := by kernel_rfl
theorem powerS_half (a : Fp) (old : Addr → Option Value) : (run (cfg Try.prog tblV (fun _ _ => .keep) old) 100 Try.f161 (Args.tvs (Γ := Fp × PowK × Unit) ((), (), ()) (a, .half, ())) []).map (retOf (R := Fp)) = some (some (powS a PowK.half.digits), []) := by kernel_rfl
theorem powerS_quarter (a : Fp) (old : Addr → Option Value) : (run (cfg Try.prog tblV (fun _ _ => .keep) old) 100 Try.f161 (Args.tvs (Γ := Fp × PowK × Unit) ((), (), ()) (a, .quarter, ())) []).map (retOf (R := Fp)) = some (some (powS a PowK.quarter.digits), []) := by kernel_rfl
theorem powerS_ok : Computes A Try.prog 161 (fun x : Fp × PowK × Unit => powS x.1 x.2.1.digits) := by
  refine computes_of_run0 tblV_ok Try.func161 (by kernel_rfl) (by kernel_rfl) 100 ?_
  rintro ⟨⟨⟩, ⟨⟩, ⟨⟩⟩ ⟨a, k, ⟨⟩⟩ W
  cases k
  · exact powerS_less2 a _
  · exact powerS_half a _
  · exact powerS_quarter a _

/-! ### Powers -/
def fpow (a : Fp) (n : Nat) : Fp := ⟨a.val ^ n % pN, Nat.mod_lt _ (by decide)⟩
theorem fpow_zero (a : Fp) : fpow a 0 = 1 := by apply Fin.ext; show a.val ^ 0 % pN = 1 % pN; rw [Nat.pow_zero]
theorem fpow_one (a : Fp) : fpow a 1 = a := by apply Fin.ext; show a.val ^ 1 % pN = a.val; rw [Nat.pow_one, Nat.mod_eq_of_lt a.isLt]
theorem fpow_add (a : Fp) (m n : Nat) : fpow a (m + n) = fpow a m * fpow a n := by
  apply Fin.ext
  show a.val ^ (m + n) % pN = (a.val ^ m % pN * (a.val ^ n % pN)) % pN
  rw [Nat.pow_add, Nat.mul_mod]
theorem fpow_succ (a : Fp) (n : Nat) : fpow a (n + 1) = fpow a n * a := by rw [fpow_add, fpow_one]
theorem fpow_mul (a : Fp) (m n : Nat) : fpow a (m * n) = fpow (fpow a m) n := by
  apply Fin.ext
  show a.val ^ (m * n) % pN = (a.val ^ m % pN) ^ n % pN
  rw [Nat.pow_mul, ← Nat.pow_mod]
theorem mul_fpow (a b : Fp) (n : Nat) : fpow (a * b) n = fpow a n * fpow b n := by
  apply Fin.ext
  show (a * b).val ^ n % pN = (a.val ^ n % pN * (b.val ^ n % pN)) % pN
  rw [show (a * b).val = a.val * b.val % pN from Fin.val_mul a b, ← Nat.pow_mod, Nat.mul_pow, Nat.mul_mod]
theorem one_fpow (n : Nat) : fpow 1 n = 1 := by
  apply Fin.ext
  show (1 % pN) ^ n % pN = 1 % pN
  rw [Nat.mod_eq_of_lt (show 1 < pN by decide), Nat.one_pow, Nat.mod_eq_of_lt (show 1 < pN by decide)]
theorem zero_fpow {n : Nat} (h : 0 < n) : fpow 0 n = 0 := by
  obtain ⟨k, rfl⟩ : ∃ k, n = k + 1 := ⟨n - 1, by omega⟩
  rw [fpow_succ, Fin.mul_zero]

theorem fermatF {a : Fp} (h : a ≠ 0) : fpow a (pN - 1) = 1 := by
  apply Fin.ext
  show a.val ^ (pN - 1) % pN = 1 % pN
  have hv : a.val ≠ 0 := fun e => h (Fin.ext e)
  rw [fermat prime_p (fun hd => hv (Nat.eq_zero_of_dvd_of_lt hd a.isLt)), Nat.mod_eq_of_lt (show 1 < pN by decide)]

theorem mul_eq_zeroF {a b : Fp} (h : a * b = 0) : a = 0 ∨ b = 0 := by
  have e : (a.val * b.val) % pN = 0 := by
    have := congrArg Fin.val h
    rw [Fin.val_mul] at this
    exact this
  rcases Prime.dvd_mul prime_p (Nat.dvd_of_mod_eq_zero e) with hd | hd
  · exact .inl (Fin.ext (Nat.eq_zero_of_dvd_of_lt hd a.isLt))
  · exact .inr (Fin.ext (Nat.eq_zero_of_dvd_of_lt hd b.isLt))

def hexN (l : List Nat) : Nat := l.foldl (fun n d => 16 * n + d) 0

theorem tblPow_eq (a : Fp) : ∀ k, tblPow a k = fpow a k
  | 0 => (fpow_zero a).symm
  | k + 1 => by rw [tblPow, tblPow_eq a k, fpow_succ]
theorem sqF_eq (z : Fp) : sqF z = fpow z 2 := by rw [sqF, show (2 : Nat) = 1 + 1 from rfl, fpow_add, fpow_one]
theorem powStep_eq (a out : Fp) (d : Nat) : powStep a out d = fpow out 16 * fpow a d := by
  have h : sqF (sqF (sqF (sqF out))) = fpow out 16 := by
    simp only [sqF_eq, ← fpow_mul]
  cases d with
  | zero => simp only [powStep]; rw [h, fpow_zero, Fin.mul_one]
  | succ d => simp only [powStep]; rw [h, tblPow_eq]
theorem powD_eq (a : Fp) : ∀ (l : List Nat) (n : Nat), powD a (fpow a n) l = fpow a (l.foldl (fun n d => 16 * n + d) n)
  | [], n => rfl
  | d :: l, n => by
    have : powStep a (fpow a n) d = fpow a (16 * n + d) := by rw [powStep_eq, ← fpow_mul, ← fpow_add, Nat.mul_comm]
    simp only [powD, List.foldl_cons]
    rw [this, powD_eq a l]
theorem powS_eq (a : Fp) (l : List Nat) : powS a l = fpow a (hexN l) := by
  match l with
  | [] => exact (fpow_zero a).symm
  | 0 :: l =>
    have := powD_eq a l 0
    rw [fpow_zero] at this
    exact this
  | (d + 1) :: l =>
    have := powD_eq a l (d + 1)
    simp only [powS]
    rw [Fin.one_mul, tblPow_eq, this]
    simp [hexN]

def PowK.n : PowK → Nat
  | .less2 => pN - 2
  | .half => (pN - 1) / 2
  | .quarter => (pN + 1) / 4
theorem PowK.hex (k : PowK) : hexN k.digits = PowK.n k := by cases k <;> kernel_rfl
theorem power_ok : Computes A Try.prog 161 (fun x : Fp × PowK × Unit => fpow x.1 (PowK.n x.2.1)) :=
  Computes.eq powerS_ok (fun x => by rw [powS_eq, PowK.hex])

def invF (a : Fp) : Fp := fpow a (pN - 2)
theorem mul_invF {a : Fp} (h : a ≠ 0) : a * invF a = 1 := by
  have := fermatF h
  rw [show pN - 1 = 1 + (pN - 2) from by rw [pN_val], fpow_add, fpow_one] at this
  exact this
theorem invF_zero : invF 0 = 0 := zero_fpow (by rw [pN_val]; omega)

theorem inv_ok : Computes A Try.prog 50 (fun x : Fp × Unit => invF x.1) :=
  Computes.eq (f := fun x : Fp × Unit => fpow x.1 (PowK.n .less2)) (computes_of_run0 (.cons power_ok.row (.nil _)) Try.func50 (by kernel_rfl) (by kernel_rfl) 4 (fun _ _ _ => by kernel_rfl)) (fun _ => rfl)

end Go.Proofs.Ytbdbmcdcjejffaa

/- Fp: bytes, parity, size, roots, signs. -/
namespace Go.Proofs.Ytbdbmcdcjejffaa
open Go Go.Sh

/-! ### Bytes -/
theorem lim_numL (n : Num) (k : Nat) (h : k < 6) : (lim k (numL n)).toNat = n.val / 18446744073709551616 ^ k % 18446744073709551616 := by
  have : k = 0 ∨ k = 1 ∨ k = 2 ∨ k = 3 ∨ k = 4 ∨ k = 5 := by omega
  rcases this with rfl | rfl | rfl | rfl | rfl | rfl
  · exact (ofNat_mod _).trans (by rw [Nat.pow_zero, Nat.div_one])
  · exact (ofNat_mod _).trans (by rw [Nat.pow_one])
  · exact ofNat_mod _
  · exact ofNat_mod _
  · exact ofNat_mod _
  · exact ofNat_mod _

theorem byteL_byteN (n : Num) (i : Nat) (h : i < 48) : byteL (numL n) i = byteN n.val i := by
  unfold byteL byteN
  congr 1
  have e : ((UInt64.ofNat ((lim ((47 - i) / 8) (numL n)).toNat / 2 ^ (8 * ((47 - i) % 8)))).toNat : Int) % 256 = (((lim ((47 - i) / 8) (numL n)).toNat / 2 ^ (8 * ((47 - i) % 8)) % 256 : Nat) : Int) := by
    rw [UInt64.toNat_ofNat', Nat.mod_eq_of_lt (Nat.lt_of_le_of_lt (Nat.div_le_self _ _) (UInt64.toNat_lt _))]
    rfl
  rw [e, Int.toNat_natCast, lim_numL n _ (by omega)]
  have h2 : (256 : Nat) ^ (47 - i) = 18446744073709551616 ^ ((47 - i) / 8) * 2 ^ (8 * ((47 - i) % 8)) := by
    rw [show (18446744073709551616 : Nat) = 2 ^ 64 from rfl, ← Nat.pow_mul, ← Nat.pow_add, show (256 : Nat) = 2 ^ 8 from rfl, ← Nat.pow_mul]
    congr 1
    omega
  rw [h2, ← Nat.div_div_eq_div_mul]
  generalize n.val / 18446744073709551616 ^ ((47 - i) / 8) = m
  have : (47 - i) % 8 < 8 := Nat.mod_lt _ (by omega)
  generalize (47 - i) % 8 = r at *
  have : r = 0 ∨ r = 1 ∨ r = 2 ∨ r = 3 ∨ r = 4 ∨ r = 5 ∨ r = 6 ∨ r = 7 := by omega
  rcases this with rfl | rfl | rfl | rfl | rfl | rfl | rfl | rfl <;> simp only [Nat.reducePow, Nat.reduceMul] <;> omega

theorem bytes_eq (n : Num) : (List.range 48).map (fun i => Value.int .u8 ((bytesL6 (numL n)).f i).toNat) = (List.range 48).map (fun i => Value.int .u8 ((bytesN n.val).f i).toNat) := by
  apply List.map_congr_left
  intro i hi
  have h : i < 48 := List.mem_range.1 hi
  have e : ((List.range 48).map (byteL (numL n)))[i]? = some (byteL (numL n) i) := by simp [h]
  have := pickN_at 0 ((List.range 48).map (byteL (numL n))) i (by simp [h])
  rw [e] at this
  show Value.int .u8 ((pickN 0 ((List.range 48).map (byteL (numL n))) i).toNat : Int) = _
  rw [← Option.some.inj this, byteL_byteN n i h]
  rfl

theorem limbsBytes_ok : Computes A Try.prog 149 (fun x : Num × Unit => bytesN x.1.val) :=
  limbsBytesL_ok.as (fun x => (numL x.1, ())) (fun _ _ _ _ => ⟨((), ()), ⟨trivial, trivial⟩, rfl⟩) (fun x => by
    show Value.agg (List.toArray ((List.range 48).map (fun i => Value.int .u8 ((bytesL6 (numL x.1)).f i).toNat))) = Value.agg (List.toArray ((List.range 48).map (fun i => Value.int .u8 ((bytesN x.1.val).f i).toNat)))
    rw [bytes_eq])
theorem refBytes_ok : Computes A Try.prog 136 (fun x : Num × Unit => bytesN x.1.val) :=
  refBytesL_ok.as (fun x => (numL x.1, ())) (fun _ _ _ _ => ⟨((), ()), ⟨trivial, trivial⟩, rfl⟩) (fun x => by
    show Value.agg (List.toArray ((List.range 48).map (fun i => Value.int .u8 ((bytesL6 (numL x.1)).f i).toNat))) = Value.agg (List.toArray ((List.range 48).map (fun i => Value.int .u8 ((bytesN x.1.val).f i).toNat)))
    rw [bytes_eq])

def tblX : List (Row A) := [rowOf A 150 (fun x : Fp × Unit => fpNum x.1), rowOf A 149 (fun x : Num × Unit => bytesN x.1.val), rowOf A 145 (fun x : Num × Num × Unit => decide (x.1 < x.2.1))]
theorem tblX_ok : TblOK Try.prog tblX := .cons number_ok.row (.cons limbsBytes_ok.row (.cons limbsLess_ok.row (.nil _)))
/-- A row of 48 bytes, as it is read. -/
def told48 (f : Nat → UInt8) : R8 48 := ⟨pickN 0 ((List.range 48).map f)⟩
theorem told48_eq (f : Nat → UInt8) : Value.agg (List.toArray ((List.range 48).map (fun i => Value.int .u8 ((told48 f).f i).toNat))) = Value.agg (List.toArray ((List.range 48).map (fun i => Value.int .u8 (f i).toNat))) := by
  rfl
theorem bytesT_ok : Computes A Try.prog 32 (fun x : Fp × Unit => told48 (byteN x.1.val)) :=
  computes_of_run0 tblX_ok Try.func32 (by kernel_rfl) (by kernel_rfl) 8 (fun _ _ _ => by kernel_rfl)
theorem bytes_ok : Computes A Try.prog 32 (fun x : Fp × Unit => bytesN x.1.val) :=
  bytesT_ok.as (fun x => x) (fun gh _ _ hg => ⟨gh, hg, rfl⟩) (fun x => told48_eq (byteN x.1.val))

/-! ### Size -/
def halfN : Num := numO (15924587544893707605, 1105070755758604287, 12941209323636816658, 12843041017062132063, 2706051889235351147, 936899308823769933)
theorem halfN_val : halfN.val = (pN - 1) / 2 := by kernel_rfl
def largeF (a : Fp) : Bool := decide ((pN - 1) / 2 < a.val)
theorem large_ok : Computes A Try.prog 57 (fun x : Fp × Unit => largeF x.1) :=
  Computes.eq (f := fun x : Fp × Unit => decide (halfN < fpNum x.1)) (computes_of_run0 tblX_ok Try.func57 (by kernel_rfl) (by kernel_rfl) 8 (fun _ _ _ => by kernel_rfl)) (fun x => by
    show decide (halfN.val < x.1.val) = _
    rw [halfN_val]; rfl)

/-! ### Roots and signs -/
def tblY : List (Row A) := [rowOf A 161 (fun x : Fp × PowK × Unit => fpow x.1 (PowK.n x.2.1)), rowOf A 47 (fun x : Fp × Unit => x.1 * x.1), rowOf A 52 (fun x : Fp × Fp × Unit => decide (x.1 = x.2.1)),
  rowOf A 57 (fun x : Fp × Unit => largeF x.1), rowOf A 48 (fun x : Fp × Unit => -x.1), rowOf A 31 (fun x : Fp × Unit => decide (x.1 = 0)), rowOf A 163 (fun _ : Unit => (1 : Fp))]
theorem tblY_ok : TblOK Try.prog tblY := .cons power_ok.row (.cons sq_ok.row (.cons equal_ok.row (.cons large_ok.row (.cons neg_ok.row (.cons isZero_ok.row (.cons one_ok.row (.nil _)))))))

def rootR (a : Fp) : Fp := fpow a (PowK.n .quarter)
def sqrtF (a : Fp) : T2 Fp Bool := if rootR a * rootR a = a then (if largeF (rootR a) = true then ⟨-rootR a, true⟩ else ⟨rootR a, true⟩) else ⟨0, false⟩
def legF (a : Fp) : Int := if fpow a (PowK.n .half) = 0 then 0 else if fpow a (PowK.n .half) = 1 then 1 else -1

theorem sqrt_ok : Computes A Try.prog 54 (fun x : Fp × Unit => sqrtF x.1) := by
  refine computes_of_run tblY_ok Try.func54 (by kernel_rfl) (by kernel_rfl) 8 ?_
  rintro _ ⟨a, ⟨⟩⟩ W -
  by_cases h : rootR a * rootR a = a
  · by_cases h2 : largeF (rootR a) = true
    · exact ⟨says [(11, false), (14, true)], _, _, (by kernel_rfl : _ = some (some (T2.mk (-rootR a) true), [largeF (rootR a) = true, (!decide (rootR a * rootR a = a)) = false])), ⟨h2, by simp [h], trivial⟩, by simp only [sqrtF, h, h2, if_true]⟩
    · exact ⟨says [(11, false), (14, false)], _, _, (by kernel_rfl : _ = some (some (T2.mk (rootR a) true), [largeF (rootR a) = false, (!decide (rootR a * rootR a = a)) = false])), ⟨by simpa using h2, by simp [h], trivial⟩, by simp only [sqrtF, h, h2, if_true, if_false]; rfl⟩
  · exact ⟨says [(11, true)], _, _, (by kernel_rfl : _ = some (some (T2.mk (0 : Fp) false), [(!decide (rootR a * rootR a = a)) = true])), ⟨by simp [h], trivial⟩, by simp only [sqrtF, h, if_false]⟩

theorem legendre_ok : Computes A Try.prog 60 (fun x : Fp × Unit => legF x.1) := by
  refine computes_of_run tblY_ok Try.func60 (by kernel_rfl) (by kernel_rfl) 8 ?_
  rintro _ ⟨a, ⟨⟩⟩ W -
  by_cases h : fpow a (PowK.n .half) = 0
  · exact ⟨says [(6, true)], _, _, (by kernel_rfl : _ = some (some (0 : Int), [decide (fpow a (PowK.n .half) = 0) = true])), ⟨decide_eq_true h, trivial⟩, by simp only [legF, h, if_true]⟩
  · by_cases h2 : fpow a (PowK.n .half) = 1
    · exact ⟨says [(6, false), (9, true)], _, _, (by kernel_rfl : _ = some (some (1 : Int), [decide (fpow a (PowK.n .half) = 1) = true, decide (fpow a (PowK.n .half) = 0) = false])), ⟨decide_eq_true h2, decide_eq_false h, trivial⟩, by show 1 = legF a; unfold legF; rw [if_neg h, if_pos h2]⟩
    · exact ⟨says [(6, false), (9, false)], _, _, (by kernel_rfl : _ = some (some (-1 : Int), [decide (fpow a (PowK.n .half) = 1) = false, decide (fpow a (PowK.n .half) = 0) = false])), ⟨decide_eq_false h2, decide_eq_false h, trivial⟩, by simp only [legF, h, h2, if_false]⟩

def oddF (a : Fp) : Bool := decide (a.val % 2 = 1)

end Go.Proofs.Ytbdbmcdcjejffaa

/- Fp: parity; elements of bytes. -/
namespace Go.Proofs.Ytbdbmcdcjejffaa
open Go Go.Sh

theorem and_one (w : UInt64) : (((UInt64.ofNat (((BitVec.ofInt IntKind.u64.bits (w.toNat : Int) &&& BitVec.ofInt IntKind.u64.bits 1).toNat : Int) % 18446744073709551616).toNat).toNat : Int) == 1) = decide (w.toNat % 2 = 1) := by
  have h : (BitVec.ofInt IntKind.u64.bits (w.toNat : Int) &&& BitVec.ofInt IntKind.u64.bits 1).toNat = w.toNat % 2 := by
    show (BitVec.ofInt 64 (w.toNat : Int) &&& BitVec.ofInt 64 1).toNat = _
    have f1 : (BitVec.ofInt 64 (w.toNat : Int)).toNat = w.toNat := by
      rw [BitVec.toNat_ofInt]
      have := w.toNat_lt
      omega
    have f2 : (BitVec.ofInt 64 1).toNat = 1 := rfl
    rw [BitVec.toNat_and, f1, f2, Nat.and_one_is_mod]
  rw [h]
  have h2 : (((w.toNat % 2 : Nat) : Int) % 18446744073709551616).toNat = w.toNat % 2 := by omega
  rw [h2, UInt64.toNat_ofNat_of_lt' (by show w.toNat % 2 < 18446744073709551616; omega)]
  have : w.toNat % 2 = 0 ∨ w.toNat % 2 = 1 := by omega
  rcases this with e | e <;> rw [e] <;> rfl

theorem lim0 (n : Num) : (lim 0 (numL n)).toNat % 2 = n.val % 2 := by
  rw [lim_numL n 0 (by omega), Nat.pow_zero, Nat.div_one]
  omega

theorem oddRaw_ok : Computes A Try.prog 55 (fun x : Fp × Unit => (((UInt64.ofNat (((BitVec.ofInt IntKind.u64.bits ((lim 0 (numL (fpNum x.1))).toNat : Int) &&& BitVec.ofInt IntKind.u64.bits 1).toNat : Int) % 18446744073709551616).toNat).toNat : Int) == 1)) :=
  computes_of_run0 tblX_ok Try.func55 (by kernel_rfl) (by kernel_rfl) 8 (fun _ _ _ => by kernel_rfl)
theorem odd_ok : Computes A Try.prog 55 (fun x : Fp × Unit => oddF x.1) :=
  Computes.eq oddRaw_ok (fun x => by rw [and_one, lim0]; rfl)

def tblZ : List (Row A) := [rowOf A 144 (fun x : Bs × Unit => fromB x.1.l), rowOf A 147 (fun x : Pl × Unit => x.1.x), rowOf A 145 (fun x : Num × Num × Unit => decide (x.1 < x.2.1)), rowOf A 146 (fun _ : Unit => pNum)]
theorem tblZ_ok : TblOK Try.prog tblZ := .cons limbsFrom_ok.row (.cons made_ok.row (.cons limbsLess_ok.row (.cons prime_ok.row (.nil _))))

/-- The element of 48 bytes. -/
def fromE (l : List UInt8) : T2 Fp Bool := if l.length = 48 ∧ numB l < pN then ⟨fpN (numB l), true⟩ else ⟨0, false⟩

theorem partB_all (l : List UInt8) : partB l 0 l.length = l := by
  rw [partB_eq l (by omega)]; simp

theorem lessP {l : List UInt8} (h : l.length = 48) : decide (numOfB l < pNum) = decide (numB l < pN) := by
  show decide ((numOfB l).val < pN) = _
  unfold numOfB
  rw [dif_pos (by omega)]

theorem from_ok : Computes A Try.prog 27 (fun x : Bs × Unit => fromE x.1.l) := by
  refine computes_of_run tblZ_ok Try.func27 (by kernel_rfl) (by kernel_rfl) 8 ?_
  rintro ⟨g, _⟩ ⟨⟨l⟩, ⟨⟩⟩ W ⟨hg, _⟩
  have hg : HasBytes W l g := hg
  have hr : Reads W.cell? g.a (byteAt (B := FB) l) 0 l.length := reads_bytes hg (by omega)
  have hu := isU8_bytes (B := FB) l 0 l.length
  have hp := partB_all l
  by_cases h1 : l.length ≤ 48
  · by_cases h2 : l.length = 48
    · by_cases h3 : numB l < pN
      · refine ⟨says [(13, false), (18, false), (23, false)], _, [(fromB (partB l 0 l.length)).a.val < pN, (!decide ((fromB (partB l 0 l.length)).a < pNum)) = false, ((l.length : Int) != 48) = false, (!(fromB (partB l 0 l.length)).b) = false, Reads W.cell? g.a (byteAt (B := FB) l) 0 l.length, ∀ j, j < l.length → isU8 (byteAt (B := FB) l (0 + j)) = true],
          (by kernel_rfl : _ = some (some (T2.mk (plOf (fromB (partB l 0 l.length)).a).x true), _)), ?_, ?_⟩
        · rw [hp]
          have h4 : decide ((fromB l).a < pNum) = true := (lessP h2).trans (decide_eq_true h3)
          refine ⟨of_decide_eq_true h4, by rw [h4]; rfl, by rw [show (l.length : Int) = 48 by omega]; rfl, ?_, hr, hu, trivial⟩
          show (!decide (l.length ≤ 48)) = false
          rw [decide_eq_true h1]; rfl
        · rw [hp]
          have e : (fromB l).a.val = numB l := by show (numOfB l).val = _; unfold numOfB; rw [dif_pos h1]
          show T2.mk (plOf (fromB l).a).x true = fromE l
          unfold fromE
          rw [if_pos ⟨h2, h3⟩]
          congr 1
          apply Fin.ext
          show (fromB l).a.val % pN = numB l % pN
          rw [e]
      · refine ⟨says [(13, false), (18, false), (23, true)], _, [(!decide ((fromB (partB l 0 l.length)).a < pNum)) = true, ((l.length : Int) != 48) = false, (!(fromB (partB l 0 l.length)).b) = false, Reads W.cell? g.a (byteAt (B := FB) l) 0 l.length, ∀ j, j < l.length → isU8 (byteAt (B := FB) l (0 + j)) = true],
          (by kernel_rfl : _ = some (some (T2.mk (0 : Fp) false), _)), ?_, ?_⟩
        · rw [hp]
          have h4 : decide ((fromB l).a < pNum) = false := (lessP h2).trans (decide_eq_false h3)
          refine ⟨by rw [h4]; rfl, by rw [show (l.length : Int) = 48 by omega]; rfl, ?_, hr, hu, trivial⟩
          show (!decide (l.length ≤ 48)) = false
          rw [decide_eq_true h1]; rfl
        · show T2.mk (0 : Fp) false = fromE l
          unfold fromE
          rw [if_neg (fun h => h3 h.2)]
    · refine ⟨says [(13, false), (18, true)], _, [((l.length : Int) != 48) = true, (!(fromB (partB l 0 l.length)).b) = false, Reads W.cell? g.a (byteAt (B := FB) l) 0 l.length, ∀ j, j < l.length → isU8 (byteAt (B := FB) l (0 + j)) = true],
          (by kernel_rfl : _ = some (some (T2.mk (0 : Fp) false), _)), ?_, ?_⟩
      · rw [hp]
        refine ⟨bne_iff_ne.2 (by omega), ?_, hr, hu, trivial⟩
        show (!decide (l.length ≤ 48)) = false
        rw [decide_eq_true h1]; rfl
      · show T2.mk (0 : Fp) false = fromE l
        unfold fromE
        rw [if_neg (fun h => h2 h.1)]
  · refine ⟨says [(13, true)], _, [(!(fromB (partB l 0 l.length)).b) = true, Reads W.cell? g.a (byteAt (B := FB) l) 0 l.length, ∀ j, j < l.length → isU8 (byteAt (B := FB) l (0 + j)) = true],
          (by kernel_rfl : _ = some (some (T2.mk (0 : Fp) false), _)), ?_, ?_⟩
    · rw [hp]
      refine ⟨?_, hr, hu, trivial⟩
      show (!decide (l.length ≤ 48)) = true
      rw [decide_eq_false h1]; rfl
    · show T2.mk (0 : Fp) false = fromE l
      unfold fromE
      rw [if_neg (fun h => by omega)]

end Go.Proofs.Ytbdbmcdcjejffaa

/- The chapter's examples. -/
namespace Go.Proofs.Ytbdbmcdcjejffaa
open Go Go.Sh

def tblK (O : UInt64 → Fp) (S : Fp → T2 Fp Bool) (N I : Fp → Fp) (B : Fp → R8 48) (F : List UInt8 → T2 Fp Bool) (E : Fp → Fp → Bool) (Z : Fp → Bool) (P M : Fp → Fp → Fp) : List (Row A) :=
  [rowOf A 38 (fun x : UInt64 × Unit => O x.1), rowOf A 54 (fun x : Fp × Unit => S x.1), rowOf A 48 (fun x : Fp × Unit => N x.1), rowOf A 50 (fun x : Fp × Unit => I x.1),
    rowOf A 32 (fun x : Fp × Unit => B x.1), rowOf A 27 (fun x : Bs × Unit => F x.1.l), rowOf A 52 (fun x : Fp × Fp × Unit => E x.1 x.2.1), rowOf A 31 (fun x : Fp × Unit => Z x.1),
    rowOf A 41 (fun x : Fp × Fp × Unit => P x.1 x.2.1), rowOf A 45 (fun x : Fp × Fp × Unit => M x.1 x.2.1)]

def knownO : Nat → Nat → Dec := fun _ t => .take (!(Nat.beq t 23 || Nat.beq t 37))

/-- The bytes of an element; the same, with the last one more. -/
def listB (f : Nat → UInt8) : List UInt8 := (List.range 48).map f
def listB1 (f : Nat → UInt8) : List UInt8 := (List.range 47).map f ++ [UInt8.ofNat (((f 47).toNat + 1 : Int) % 256).toNat]

structure KnownIs (O : UInt64 → Fp) (S : Fp → T2 Fp Bool) (N I : Fp → Fp) (B : Fp → R8 48) (F : List UInt8 → T2 Fp Bool) (E : Fp → Fp → Bool) (Z : Fp → Bool) (P M : Fp → Fp → Fp) : Prop where
  h1 : E (M (I (O 7)) (O 7)) (O 1) = true
  h2 : E (M (O 3) (O 5)) (O 15) = true
  h3 : (((B (N (O 1))).f 0).toNat == (26 : Int)) = true
  h4 : Z (P (F (listB (B (N (O 1))).f)).a (O 1)) = true
  h5 : E (S (O 4)).a (O 2) = true
  h6 : (F (listB1 (B (N (O 1))).f)).b = false
  h7 : (F (listB (B (N (O 1))).f)).b = true
  h8 : (S (N (O 1))).b = false
  h9 : (S (O 4)).b = true

theorem known_of (O : UInt64 → Fp) (S : Fp → T2 Fp Bool) (N I : Fp → Fp) (B : Fp → R8 48) (F : List UInt8 → T2 Fp Bool) (E : Fp → Fp → Bool) (Z : Fp → Bool) (P M : Fp → Fp → Fp) (ht : TblOK Try.prog (tblK O S N I B F E Z P M)) (h : KnownIs O S N I B F E Z P M) :
    Computes A Try.prog 25 (fun _ : Unit => true) := by
  refine computes_of_run ht Try.func25 (by kernel_rfl) (by kernel_rfl) 8 ?_
  rintro ⟨⟩ ⟨⟩ W -
  exact ⟨knownO, _, [E (M (I (O 7)) (O 7)) (O 1) = true, E (M (O 3) (O 5)) (O 15) = true, (((B (N (O 1))).f 0).toNat == (26 : Int)) = true, Z (P (F (listB (B (N (O 1))).f)).a (O 1)) = true, E (S (O 4)).a (O 2) = true, (F (listB1 (B (N (O 1))).f)).b = false, (F (listB (B (N (O 1))).f)).b = true, (S (N (O 1))).b = false, (S (O 4)).b = true], (by kernel_rfl : _ = some (some true, _)), ⟨h.h1, h.h2, h.h3, h.h4, h.h5, h.h6, h.h7, h.h8, h.h9, trivial⟩, rfl⟩

theorem tblK_ok : TblOK Try.prog (tblK fpOf sqrtF (fun a => -a) invF (fun a => bytesN a.val) fromE (fun a b => decide (a = b)) (fun a => decide (a = 0)) (fun a b => a + b) (fun a b => a * b)) :=
  .cons of_ok.row (.cons sqrt_ok.row (.cons neg_ok.row (.cons inv_ok.row (.cons bytes_ok.row (.cons from_ok.row (.cons equal_ok.row (.cons isZero_ok.row (.cons add_ok.row (.cons mul_ok.row (.nil _))))))))))

theorem rootR_eq (a : Fp) : rootR a = powS a PowK.quarter.digits := by rw [powS_eq, PowK.hex]; rfl
theorem root4 : powS (fpOf 4) PowK.quarter.digits = fpOf 2 ∨ powS (fpOf 4) PowK.quarter.digits = -fpOf 2 := by
  have h : (decide ((powS (fpOf 4) PowK.quarter.digits).val = (fpOf 2).val) || decide ((powS (fpOf 4) PowK.quarter.digits).val = (-fpOf 2).val)) = true := by kernel_rfl
  rw [Bool.or_eq_true, decide_eq_true_eq, decide_eq_true_eq] at h
  exact h.imp Fin.ext Fin.ext
theorem rootNo : ¬ (powS (-fpOf 1) PowK.quarter.digits * powS (-fpOf 1) PowK.quarter.digits = -fpOf 1) := by
  have h : decide ((powS (-fpOf 1) PowK.quarter.digits * powS (-fpOf 1) PowK.quarter.digits).val = (-fpOf 1).val) = false := by kernel_rfl
  intro e
  exact absurd (congrArg Fin.val e) (of_decide_eq_false h)
theorem sqrt4 : sqrtF (fpOf 4) = ⟨fpOf 2, true⟩ := by
  have e1 : fpOf 2 * fpOf 2 = fpOf 4 := by kernel_rfl
  have e2 : -fpOf 2 * -fpOf 2 = fpOf 4 := by kernel_rfl
  have l1 : largeF (fpOf 2) = false := by kernel_rfl
  have l2 : largeF (-fpOf 2) = true := by kernel_rfl
  have n2 : - -fpOf 2 = fpOf 2 := by kernel_rfl
  unfold sqrtF
  rw [rootR_eq]
  rcases root4 with h | h
  · rw [h, if_pos e1, l1]; rfl
  · rw [h, if_pos e2, if_pos l2, n2]
theorem sqrtNo : (sqrtF (-fpOf 1)).b = false := by
  unfold sqrtF
  rw [rootR_eq, if_neg rootNo]

theorem from_num {l : List UInt8} (h : l.length = 48) {n : Nat} (hn : numB l = n) : fromE l = if n < pN then ⟨fpN n, true⟩ else ⟨0, false⟩ := by
  unfold fromE
  rw [hn]
  by_cases h2 : n < pN
  · rw [if_pos ⟨h, h2⟩, if_pos h2]
  · rw [if_neg (fun e => h2 e.2), if_neg h2]
theorem known_ok : Computes A Try.prog 25 (fun _ : Unit => true) := by
  have f1 : fromE (listB (bytesN (-fpOf 1).val).f) = ⟨fpN (pN - 1), true⟩ := by
    rw [from_num (n := pN - 1) (by rfl) (by kernel_rfl), if_pos (by decide)]
  have f2 : fromE (listB1 (bytesN (-fpOf 1).val).f) = ⟨0, false⟩ := by
    rw [from_num (n := pN) (by rfl) (by kernel_rfl), if_neg (by decide)]
  refine known_of _ _ _ _ _ _ _ _ _ _ tblK_ok ⟨?_, ?_, ?_, ?_, ?_, ?_, ?_, ?_, ?_⟩
  · have h7 : fpOf 7 ≠ 0 := by intro h; exact absurd (congrArg Fin.val h) (by decide)
    show decide (invF (fpOf 7) * fpOf 7 = fpOf 1) = true
    rw [Fin.mul_comm, mul_invF h7]
    exact decide_eq_true (by kernel_rfl)
  · exact decide_eq_true (by kernel_rfl)
  · kernel_rfl
  · show decide ((fromE (listB (bytesN (-fpOf 1).val).f)).a + fpOf 1 = 0) = true
    rw [f1]
    exact decide_eq_true (by kernel_rfl)
  · show decide ((sqrtF (fpOf 4)).a = fpOf 2) = true
    rw [sqrt4]
    exact decide_eq_true rfl
  · show (fromE (listB1 (bytesN (-fpOf 1).val).f)).b = false
    rw [f2]
  · show (fromE (listB (bytesN (-fpOf 1).val).f)).b = true
    rw [f1]
  · exact sqrtNo
  · show (sqrtF (fpOf 4)).b = true
    rw [sqrt4]

end Go.Proofs.Ytbdbmcdcjejffaa
