/- Fp: bytes, parity, size, roots, signs. -/
import Derived.Test.YtbdbmcdcjejffaaFeN
set_option linter.unusedVariables false
set_option linter.unusedSimpArgs false
set_option linter.unusedSectionVars false
namespace Go.Proofs.Ytbdbmcdcjejffaa
open Go Go.Sh

/-! ### Bytes -/
theorem lim_numL (n : Num) (k : Nat) (h : k < 6) : (lim k (numL n)).toNat = n.val / 18446744073709551616 ^ k % 18446744073709551616 := by
  have : k = 0 ∨ k = 1 ∨ k = 2 ∨ k = 3 ∨ k = 4 ∨ k = 5 := by omega
  rcases this with rfl | rfl | rfl | rfl | rfl | rfl
  · exact (ofNat_mod _).trans (by rw [Nat.pow_zero, Nat.div_one])
  · exact (ofNat_mod _).trans (by rw [Nat.pow_one])
  · exact ofNat_mod _
  · exact ofNat_mod _
  · exact ofNat_mod _
  · exact ofNat_mod _

theorem byteL_byteN (n : Num) (i : Nat) (h : i < 48) : byteL (numL n) i = byteN n.val i := by
  unfold byteL byteN
  congr 1
  have e : ((UInt64.ofNat ((lim ((47 - i) / 8) (numL n)).toNat / 2 ^ (8 * ((47 - i) % 8)))).toNat : Int) % 256 = (((lim ((47 - i) / 8) (numL n)).toNat / 2 ^ (8 * ((47 - i) % 8)) % 256 : Nat) : Int) := by
    rw [UInt64.toNat_ofNat', Nat.mod_eq_of_lt (Nat.lt_of_le_of_lt (Nat.div_le_self _ _) (UInt64.toNat_lt _))]
    rfl
  rw [e, Int.toNat_natCast, lim_numL n _ (by omega)]
  have h2 : (256 : Nat) ^ (47 - i) = 18446744073709551616 ^ ((47 - i) / 8) * 2 ^ (8 * ((47 - i) % 8)) := by
    rw [show (18446744073709551616 : Nat) = 2 ^ 64 from rfl, ← Nat.pow_mul, ← Nat.pow_add, show (256 : Nat) = 2 ^ 8 from rfl, ← Nat.pow_mul]
    congr 1
    omega
  rw [h2, ← Nat.div_div_eq_div_mul]
  generalize n.val / 18446744073709551616 ^ ((47 - i) / 8) = m
  have : (47 - i) % 8 < 8 := Nat.mod_lt _ (by omega)
  generalize (47 - i) % 8 = r at *
  have : r = 0 ∨ r = 1 ∨ r = 2 ∨ r = 3 ∨ r = 4 ∨ r = 5 ∨ r = 6 ∨ r = 7 := by omega
  rcases this with rfl | rfl | rfl | rfl | rfl | rfl | rfl | rfl <;> simp only [Nat.reducePow, Nat.reduceMul] <;> omega

theorem bytes_eq (n : Num) : (List.range 48).map (fun i => Value.int .u8 ((bytesL6 (numL n)).f i).toNat) = (List.range 48).map (fun i => Value.int .u8 ((bytesN n.val).f i).toNat) := by
  apply List.map_congr_left
  intro i hi
  have h : i < 48 := List.mem_range.1 hi
  have e : ((List.range 48).map (byteL (numL n)))[i]? = some (byteL (numL n) i) := by simp [h]
  have := pickN_at 0 ((List.range 48).map (byteL (numL n))) i (by simp [h])
  rw [e] at this
  show Value.int .u8 ((pickN 0 ((List.range 48).map (byteL (numL n))) i).toNat : Int) = _
  rw [← Option.some.inj this, byteL_byteN n i h]
  rfl

theorem limbsBytes_ok : Computes A Try.prog 149 (fun x : Num × Unit => bytesN x.1.val) :=
  limbsBytesL_ok.as (fun x => (numL x.1, ())) (fun _ _ _ _ => ⟨((), ()), ⟨trivial, trivial⟩, rfl⟩) (fun x => by
    show Value.agg (List.toArray ((List.range 48).map (fun i => Value.int .u8 ((bytesL6 (numL x.1)).f i).toNat))) = Value.agg (List.toArray ((List.range 48).map (fun i => Value.int .u8 ((bytesN x.1.val).f i).toNat)))
    rw [bytes_eq])
theorem refBytes_ok : Computes A Try.prog 136 (fun x : Num × Unit => bytesN x.1.val) :=
  refBytesL_ok.as (fun x => (numL x.1, ())) (fun _ _ _ _ => ⟨((), ()), ⟨trivial, trivial⟩, rfl⟩) (fun x => by
    show Value.agg (List.toArray ((List.range 48).map (fun i => Value.int .u8 ((bytesL6 (numL x.1)).f i).toNat))) = Value.agg (List.toArray ((List.range 48).map (fun i => Value.int .u8 ((bytesN x.1.val).f i).toNat)))
    rw [bytes_eq])

def tblX : List (Row A) := [rowOf A 150 (fun x : Fp × Unit => fpNum x.1), rowOf A 149 (fun x : Num × Unit => bytesN x.1.val), rowOf A 145 (fun x : Num × Num × Unit => decide (x.1 < x.2.1))]
theorem tblX_ok : TblOK Try.prog tblX := .cons number_ok.row (.cons limbsBytes_ok.row (.cons limbsLess_ok.row (.nil _)))
/-- A row of 48 bytes, as it is read. -/
def told48 (f : Nat → UInt8) : R8 48 := ⟨pickN 0 ((List.range 48).map f)⟩
theorem told48_eq (f : Nat → UInt8) : Value.agg (List.toArray ((List.range 48).map (fun i => Value.int .u8 ((told48 f).f i).toNat))) = Value.agg (List.toArray ((List.range 48).map (fun i => Value.int .u8 (f i).toNat))) := by
  rfl
theorem bytesT_ok : Computes A Try.prog 32 (fun x : Fp × Unit => told48 (byteN x.1.val)) :=
  computes_of_run0 tblX_ok Try.func32 (by kernel_rfl) (by kernel_rfl) 8 (fun _ _ _ => by kernel_rfl)
theorem bytes_ok : Computes A Try.prog 32 (fun x : Fp × Unit => bytesN x.1.val) :=
  bytesT_ok.as (fun x => x) (fun gh _ _ hg => ⟨gh, hg, rfl⟩) (fun x => told48_eq (byteN x.1.val))

/-! ### Size -/
def halfN : Num := numO (15924587544893707605, 1105070755758604287, 12941209323636816658, 12843041017062132063, 2706051889235351147, 936899308823769933)
theorem halfN_val : halfN.val = (pN - 1) / 2 := by kernel_rfl
def largeF (a : Fp) : Bool := decide ((pN - 1) / 2 < a.val)
theorem large_ok : Computes A Try.prog 57 (fun x : Fp × Unit => largeF x.1) :=
  Computes.eq (f := fun x : Fp × Unit => decide (halfN < fpNum x.1)) (computes_of_run0 tblX_ok Try.func57 (by kernel_rfl) (by kernel_rfl) 8 (fun _ _ _ => by kernel_rfl)) (fun x => by
    show decide (halfN.val < x.1.val) = _
    rw [halfN_val]; rfl)

/-! ### Roots and signs -/
def tblY : List (Row A) := [rowOf A 161 (fun x : Fp × PowK × Unit => fpow x.1 (PowK.n x.2.1)), rowOf A 47 (fun x : Fp × Unit => x.1 * x.1), rowOf A 52 (fun x : Fp × Fp × Unit => decide (x.1 = x.2.1)),
  rowOf A 57 (fun x : Fp × Unit => largeF x.1), rowOf A 48 (fun x : Fp × Unit => -x.1), rowOf A 31 (fun x : Fp × Unit => decide (x.1 = 0)), rowOf A 163 (fun _ : Unit => (1 : Fp))]
theorem tblY_ok : TblOK Try.prog tblY := .cons power_ok.row (.cons sq_ok.row (.cons equal_ok.row (.cons large_ok.row (.cons neg_ok.row (.cons isZero_ok.row (.cons one_ok.row (.nil _)))))))

def rootR (a : Fp) : Fp := fpow a (PowK.n .quarter)
def sqrtF (a : Fp) : T2 Fp Bool := if rootR a * rootR a = a then (if largeF (rootR a) = true then ⟨-rootR a, true⟩ else ⟨rootR a, true⟩) else ⟨0, false⟩
def legF (a : Fp) : Int := if fpow a (PowK.n .half) = 0 then 0 else if fpow a (PowK.n .half) = 1 then 1 else -1

theorem sqrt_ok : Computes A Try.prog 54 (fun x : Fp × Unit => sqrtF x.1) := by
  refine computes_of_run tblY_ok Try.func54 (by kernel_rfl) (by kernel_rfl) 8 ?_
  rintro _ ⟨a, ⟨⟩⟩ W -
  by_cases h : rootR a * rootR a = a
  · by_cases h2 : largeF (rootR a) = true
    · exact ⟨says [(11, false), (14, true)], _, _, (by kernel_rfl : _ = some (some (T2.mk (-rootR a) true), [largeF (rootR a) = true, (!decide (rootR a * rootR a = a)) = false])), ⟨h2, by simp [h], trivial⟩, by simp only [sqrtF, h, h2, if_true]⟩
    · exact ⟨says [(11, false), (14, false)], _, _, (by kernel_rfl : _ = some (some (T2.mk (rootR a) true), [largeF (rootR a) = false, (!decide (rootR a * rootR a = a)) = false])), ⟨by simpa using h2, by simp [h], trivial⟩, by simp only [sqrtF, h, h2, if_true, if_false]; rfl⟩
  · exact ⟨says [(11, true)], _, _, (by kernel_rfl : _ = some (some (T2.mk (0 : Fp) false), [(!decide (rootR a * rootR a = a)) = true])), ⟨by simp [h], trivial⟩, by simp only [sqrtF, h, if_false]⟩

theorem legendre_ok : Computes A Try.prog 60 (fun x : Fp × Unit => legF x.1) := by
  refine computes_of_run tblY_ok Try.func60 (by kernel_rfl) (by kernel_rfl) 8 ?_
  rintro _ ⟨a, ⟨⟩⟩ W -
  by_cases h : fpow a (PowK.n .half) = 0
  · exact ⟨says [(6, true)], _, _, (by kernel_rfl : _ = some (some (0 : Int), [decide (fpow a (PowK.n .half) = 0) = true])), ⟨decide_eq_true h, trivial⟩, by simp only [legF, h, if_true]⟩
  · by_cases h2 : fpow a (PowK.n .half) = 1
    · exact ⟨says [(6, false), (9, true)], _, _, (by kernel_rfl : _ = some (some (1 : Int), [decide (fpow a (PowK.n .half) = 1) = true, decide (fpow a (PowK.n .half) = 0) = false])), ⟨decide_eq_true h2, decide_eq_false h, trivial⟩, by show 1 = legF a; unfold legF; rw [if_neg h, if_pos h2]⟩
    · exact ⟨says [(6, false), (9, false)], _, _, (by kernel_rfl : _ = some (some (-1 : Int), [decide (fpow a (PowK.n .half) = 1) = false, decide (fpow a (PowK.n .half) = 0) = false])), ⟨decide_eq_false h2, decide_eq_false h, trivial⟩, by simp only [legF, h, h2, if_false]⟩

def oddF (a : Fp) : Bool := decide (a.val % 2 = 1)

end Go.Proofs.Ytbdbmcdcjejffaa
