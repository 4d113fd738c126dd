/- The field of p elements as data: an element lies in memory as its number times 2^384, six words. -/
import Derived.Test.YtbdbmcdcjejffaaFmA
import Derived.Test.YtbdbmcdcjejffaaPrB
set_option linter.unusedVariables false
set_option linter.unusedSimpArgs false
set_option linter.unusedSectionVars false
namespace Go.Sh

instance : NeZero pN := ⟨by decide⟩

/-- The field's elements. -/
abbrev Fp := Fin pN

/-- An element's number times 2^384, and its words. -/
def mont (x : Fp) : Nat := x.val * 2 ^ 384 % pN
def limbs (x : Fp) : L6 := lim6 (mont x)

theorem mont_lt (x : Fp) : mont x < pN := Nat.mod_lt _ (by decide)
theorem pN_lt : pN < 2 ^ 384 := of_decide_eq_true (by kernel_rfl)
theorem val6_limbs (x : Fp) : val6 (limbs x) = mont x := val6_lim6 (Nat.lt_trans (mont_lt x) pN_lt)

def cells6 (l : L6) : List Value := [.int .u64 l.1.toNat, .int .u64 l.2.1.toNat, .int .u64 l.2.2.1.toNat, .int .u64 l.2.2.2.1.toNat, .int .u64 l.2.2.2.2.1.toNat, .int .u64 l.2.2.2.2.2.toNat]

/-- Numbers below 2^384. -/
abbrev Num := Fin 39402006196394479212279040100143613805079739270465446667948293404245721771497210611414266254884915640806627990306816
instance : NeZero 39402006196394479212279040100143613805079739270465446667948293404245721771497210611414266254884915640806627990306816 := ⟨by decide⟩
def numL (n : Num) : L6 := lim6 n.val
theorem w384 : (2 : Nat) ^ 384 = 39402006196394479212279040100143613805079739270465446667948293404245721771497210611414266254884915640806627990306816 := by kernel_rfl
def numO (l : L6) : Num := ⟨val6 l, by have := val6_lt l; rwa [w384] at this⟩
theorem numO_numL (n : Num) : numO (numL n) = n := Fin.ext (val6_lim6 (by rw [w384]; exact n.isLt))
theorem numL_numO (l : L6) : numL (numO l) = l := lim6_val6 l

/-- What stands for many cells: an element, a number. -/
inductive FB where
  | fp (x : Fp)
  | num (x : Num)

def number (a b c d e f : Nat) : Nat :=
  a + 18446744073709551616 * (b + 18446744073709551616 * (c + 18446744073709551616 * (d + 18446744073709551616 * (e + 18446744073709551616 * f))))

/-- The element of a number times 2^384. -/
def ofMont (n : Nat) : Fp := ⟨n * 3231460744492646417066832100176244795738767926513225105051837195607029917124509527734802654356338138714468589979680 % pN, Nat.mod_lt _ (by decide)⟩

def inWords (a b c d e f : Nat) : Bool :=
  decide (a < 18446744073709551616) && decide (b < 18446744073709551616) && decide (c < 18446744073709551616) && decide (d < 18446744073709551616) && decide (e < 18446744073709551616) && decide (f < 18446744073709551616) &&
    decide (mont (ofMont (number a b c d e f)) = number a b c d e f)

def words6 (l : L6) : List UInt64 := [l.1, l.2.1, l.2.2.1, l.2.2.2.1, l.2.2.2.2.1, l.2.2.2.2.2]
def wordsB : FB → L6
  | .fp x => limbs x
  | .num x => numL x

instance : Big FB where
  cells b := cells6 (wordsB b)
  size _ := 6
  len _ := rfl
  one b v hv := by
    simp [cells6] at hv
    rcases hv with rfl | rfl | rfl | rfl | rfl | rfl <;> rfl
  words b := some (words6 (wordsB b))
  words_ok := by
    intro b l h
    simp at h; subst h
    rfl
  like
    | .fp _, [a, b, c, d, e, f] => if inWords a.toNat b.toNat c.toNat d.toNat e.toNat f.toNat then some (.fp (ofMont (number a.toNat b.toNat c.toNat d.toNat e.toNat f.toNat))) else none
    | .num _, [a, b, c, d, e, f] => some (.num (numO (a, b, c, d, e, f)))
    | _, _ => none
  like_ok := by
    intro a l b h
    split at h
    · rename_i x a b c d e f
      split at h
      · rename_i hb
        simp at h; subst h
        simp only [inWords, Bool.and_eq_true, decide_eq_true_eq] at hb
        have hl : limbs (ofMont (number a.toNat b.toNat c.toNat d.toNat e.toNat f.toNat)) = (a, b, c, d, e, f) := by
          apply val6_inj
          rw [val6_limbs, hb.2]
          rfl
        simp only [wordsB, hl]
        rfl
      · cases h
    · simp at h; subst h
      simp only [wordsB, numL_numO]
      rfl
    · cases h

abbrev A := At FB

def fpParse : List (SV A) → Option Fp
  | [.a (.big (.fp x))] => some x
  | [.v (.int .u64 (.ofNat a)), .v (.int .u64 (.ofNat b)), .v (.int .u64 (.ofNat c)), .v (.int .u64 (.ofNat d)), .v (.int .u64 (.ofNat e)), .v (.int .u64 (.ofNat f))] =>
    if inWords a b c d e f then some (ofMont (number a b c d e f)) else none
  | _ => none

instance : Rep A Fp where
  agg := true
  shw x := [.a (.big (.fp x))]
  vals x := cells6 (limbs x)
  parse := fpParse
  is β x := ⟨_, [], rfl, rfl, by simp; rfl⟩
  only := by
    rintro β x vs ⟨u, y, h1, h2, rfl⟩
    obtain rfl : y = [] := h2
    have h3 : u = cells6 (limbs x) := h1
    simp [h3]
  ok := by
    intro β l x vs h e
    unfold fpParse at h
    split at h
    · obtain ⟨u, y, h1, h2, rfl⟩ := e
      obtain rfl : y = [] := h2
      simp at h; subst h
      have h3 : u = _ := h1
      simp [h3]
      rfl
    · rename_i a b c d e' f
      split at h
      · rename_i hb
        simp at h; subst h
        simp only [inWords, Bool.and_eq_true, decide_eq_true_eq] at hb
        obtain ⟨⟨⟨⟨⟨⟨h1, h2⟩, h3⟩, h4⟩, h5⟩, h6⟩, h7⟩ := hb
        obtain ⟨u1, y1, ⟨rfl, _⟩, ⟨u2, y2, ⟨rfl, _⟩, ⟨u3, y3, ⟨rfl, _⟩, ⟨u4, y4, ⟨rfl, _⟩, ⟨u5, y5, ⟨rfl, _⟩, ⟨u6, y6, ⟨rfl, _⟩, k, rfl⟩, rfl⟩, rfl⟩, rfl⟩, rfl⟩, rfl⟩ := e
        obtain rfl : y6 = [] := k
        have hl : limbs (ofMont (number a b c d e' f)) = (UInt64.ofNat a, UInt64.ofNat b, UInt64.ofNat c, UInt64.ofNat d, UInt64.ofNat e', UInt64.ofNat f) := by
          apply val6_inj
          rw [val6_limbs, h7]
          simp only [val6, number, UInt64.toNat_ofNat_of_lt' h1, UInt64.toNat_ofNat_of_lt' h2, UInt64.toNat_ofNat_of_lt' h3, UInt64.toNat_ofNat_of_lt' h4, UInt64.toNat_ofNat_of_lt' h5, UInt64.toNat_ofNat_of_lt' h6]
        rw [hl]
        simp [cells6, UInt64.toNat_ofNat_of_lt' h1, UInt64.toNat_ofNat_of_lt' h2, UInt64.toNat_ofNat_of_lt' h3, UInt64.toNat_ofNat_of_lt' h4, UInt64.toNat_ofNat_of_lt' h5, UInt64.toNat_ofNat_of_lt' h6]
      · cases h
    · cases h
  single h := by cases h

instance : Sized A Fp := ⟨6, fun _ => rfl⟩

end Go.Sh
