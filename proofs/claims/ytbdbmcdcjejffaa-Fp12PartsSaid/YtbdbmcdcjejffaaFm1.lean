/- Words of 64 bits: sums, differences, products, with what is carried; plain mathematics. -/
import Derived.Test.YtbdbmcdcjejffaaEn2
import Derived.Test.YtbdbmcdcjejffaaPr1
import Derived.Test.YtbdbmcdcjejffaaEn3
set_option linter.unusedVariables false
set_option linter.unusedSimpArgs false
set_option linter.unusedSectionVars false
namespace Go.Sh

/-- A number, wrapped round to 64 bits. -/
def u64 (z : Int) : UInt64 := UInt64.ofNat (z % 18446744073709551616).toNat

theorem u64_nat (n : Nat) : (u64 n).toNat = n % 18446744073709551616 := by
  unfold u64
  rw [UInt64.toNat_ofNat_of_lt' (show _ < 18446744073709551616 by omega)]
  omega

theorem u64_toNat (z : Int) : ((u64 z).toNat : Int) = z % 18446744073709551616 := by
  unfold u64
  rw [UInt64.toNat_ofNat_of_lt' (show _ < 18446744073709551616 by omega)]
  omega

theorem u64_eq {z : Int} {n : Nat} (h : z % 18446744073709551616 = n % 18446744073709551616) : u64 z = u64 n := by unfold u64; rw [h]

/-- bits.Mul64. -/
def mulHi (x y : UInt64) : UInt64 := UInt64.ofNat (x.toNat * y.toNat / 18446744073709551616)
def mulLo (x y : UInt64) : UInt64 := u64 ((x.toNat : Int) * y.toNat)

theorem mul_bound (x y : UInt64) : x.toNat * y.toNat ≤ 18446744073709551615 * 18446744073709551615 :=
  Nat.mul_le_mul (by have := x.toNat_lt; omega) (by have := y.toNat_lt; omega)

theorem mulHi_nat (x y : UInt64) : (mulHi x y).toNat = x.toNat * y.toNat / 18446744073709551616 := by
  unfold mulHi
  have := mul_bound x y
  rw [UInt64.toNat_ofNat_of_lt' (show _ < 18446744073709551616 from Nat.div_lt_of_lt_mul (by omega))]

theorem mulLo_nat (x y : UInt64) : (mulLo x y).toNat = x.toNat * y.toNat % 18446744073709551616 := by
  unfold mulLo
  have : ((x.toNat : Int) * y.toNat) = ((x.toNat * y.toNat : Nat) : Int) := by simp
  rw [this, u64_nat]

/-- bits.Add64, bits.Sub64. -/
def adcS (x y : UInt64) (c : Cy) : UInt64 := UInt64.ofNat ((x.toNat + y.toNat + (cond c.on 1 0)) % 18446744073709551616)
def adcC (x y : UInt64) (c : Cy) : Cy := ⟨decide (18446744073709551616 ≤ x.toNat + y.toNat + (cond c.on 1 0))⟩
def sbbS (x y : UInt64) (c : Cy) : UInt64 := UInt64.ofNat ((x.toNat + 18446744073709551616 - y.toNat - (cond c.on 1 0)) % 18446744073709551616)
def sbbC (x y : UInt64) (c : Cy) : Cy := ⟨decide (x.toNat < y.toNat + (cond c.on 1 0))⟩

def Cy.n (c : Cy) : Nat := cond c.on 1 0
theorem Cy.le (c : Cy) : c.n ≤ 1 := by obtain ⟨b⟩ := c; cases b <;> simp [Cy.n]

theorem adc_nat (x y : UInt64) (c : Cy) : (adcS x y c).toNat + 18446744073709551616 * (adcC x y c).n = x.toNat + y.toNat + c.n := by
  have hx := x.toNat_lt
  have hy := y.toNat_lt
  have hc := c.le
  unfold adcS
  rw [UInt64.toNat_ofNat_of_lt' (Nat.mod_lt _ (by decide))]
  change (x.toNat + y.toNat + c.n) % 18446744073709551616 + 18446744073709551616 * (cond (decide (18446744073709551616 ≤ x.toNat + y.toNat + c.n)) 1 0) = _
  by_cases h : 18446744073709551616 ≤ x.toNat + y.toNat + c.n
  · rw [decide_eq_true h]; simp only [cond_true]; omega
  · rw [decide_eq_false h]; simp only [cond_false]; omega

theorem sbb_nat (x y : UInt64) (c : Cy) : (sbbS x y c).toNat + y.toNat + c.n = x.toNat + 18446744073709551616 * (sbbC x y c).n := by
  have hx := x.toNat_lt
  have hy := y.toNat_lt
  have hc := c.le
  unfold sbbS
  rw [UInt64.toNat_ofNat_of_lt' (Nat.mod_lt _ (by decide))]
  change (x.toNat + 18446744073709551616 - y.toNat - c.n) % 18446744073709551616 + y.toNat + c.n = x.toNat + 18446744073709551616 * (cond (decide (x.toNat < y.toNat + c.n)) 1 0)
  by_cases h : x.toNat < y.toNat + c.n
  · rw [decide_eq_true h]; simp only [cond_true]; omega
  · rw [decide_eq_false h]; simp only [cond_false]; omega

/-- Six words, and their number. -/
abbrev L6 := UInt64 × UInt64 × UInt64 × UInt64 × UInt64 × UInt64

def val6 (l : L6) : Nat :=
  l.1.toNat + 18446744073709551616 * (l.2.1.toNat + 18446744073709551616 * (l.2.2.1.toNat + 18446744073709551616 * (l.2.2.2.1.toNat + 18446744073709551616 * (l.2.2.2.2.1.toNat + 18446744073709551616 * l.2.2.2.2.2.toNat))))

def lim6 (n : Nat) : L6 :=
  (UInt64.ofNat (n % 18446744073709551616), UInt64.ofNat (n / 18446744073709551616 % 18446744073709551616), UInt64.ofNat (n / 18446744073709551616 ^ 2 % 18446744073709551616),
    UInt64.ofNat (n / 18446744073709551616 ^ 3 % 18446744073709551616), UInt64.ofNat (n / 18446744073709551616 ^ 4 % 18446744073709551616), UInt64.ofNat (n / 18446744073709551616 ^ 5 % 18446744073709551616))

theorem ofNat_mod (n : Nat) : (UInt64.ofNat (n % 18446744073709551616)).toNat = n % 18446744073709551616 := UInt64.toNat_ofNat_of_lt' (Nat.mod_lt _ (by decide))

theorem val6_lt (l : L6) : val6 l < 2 ^ 384 := by
  obtain ⟨a, b, c, d, e, f⟩ := l
  have := a.toNat_lt; have := b.toNat_lt; have := c.toNat_lt; have := d.toNat_lt; have := e.toNat_lt; have := f.toNat_lt
  simp only [val6]
  omega

theorem val6_lim6 {n : Nat} (h : n < 2 ^ 384) : val6 (lim6 n) = n := by
  simp only [val6, lim6, ofNat_mod]
  omega

theorem val6_inj {a b : L6} (h : val6 a = val6 b) : a = b := by
  obtain ⟨a0, a1, a2, a3, a4, a5⟩ := a
  obtain ⟨b0, b1, b2, b3, b4, b5⟩ := b
  simp only [val6] at h
  have := a0.toNat_lt; have := a1.toNat_lt; have := a2.toNat_lt; have := a3.toNat_lt; have := a4.toNat_lt; have := a5.toNat_lt
  have := b0.toNat_lt; have := b1.toNat_lt; have := b2.toNat_lt; have := b3.toNat_lt; have := b4.toNat_lt; have := b5.toNat_lt
  have e0 : a0 = b0 := UInt64.toNat_inj.1 (by omega)
  have e1 : a1 = b1 := UInt64.toNat_inj.1 (by omega)
  have e2 : a2 = b2 := UInt64.toNat_inj.1 (by omega)
  have e3 : a3 = b3 := UInt64.toNat_inj.1 (by omega)
  have e4 : a4 = b4 := UInt64.toNat_inj.1 (by omega)
  have e5 : a5 = b5 := UInt64.toNat_inj.1 (by omega)
  rw [e0, e1, e2, e3, e4, e5]

theorem lim6_val6 (l : L6) : lim6 (val6 l) = l := val6_inj (val6_lim6 (val6_lt l))

end Go.Sh

/- The field of p elements as data: an element lies in memory as its number times 2^384, six words. -/
namespace Go.Sh

instance : NeZero pN := ⟨by decide⟩

/-- The field's elements. -/
abbrev Fp := Fin pN

/-- An element's number times 2^384, and its words. -/
def mont (x : Fp) : Nat := x.val * 2 ^ 384 % pN
def limbs (x : Fp) : L6 := lim6 (mont x)

theorem mont_lt (x : Fp) : mont x < pN := Nat.mod_lt _ (by decide)
theorem pN_lt : pN < 2 ^ 384 := of_decide_eq_true (by kernel_rfl)
theorem val6_limbs (x : Fp) : val6 (limbs x) = mont x := val6_lim6 (Nat.lt_trans (mont_lt x) pN_lt)

def cells6 (l : L6) : List Value := [.int .u64 l.1.toNat, .int .u64 l.2.1.toNat, .int .u64 l.2.2.1.toNat, .int .u64 l.2.2.2.1.toNat, .int .u64 l.2.2.2.2.1.toNat, .int .u64 l.2.2.2.2.2.toNat]

/-- Numbers below 2^384. -/
abbrev Num := Fin 39402006196394479212279040100143613805079739270465446667948293404245721771497210611414266254884915640806627990306816
instance : NeZero 39402006196394479212279040100143613805079739270465446667948293404245721771497210611414266254884915640806627990306816 := ⟨by decide⟩
def numL (n : Num) : L6 := lim6 n.val
theorem w384 : (2 : Nat) ^ 384 = 39402006196394479212279040100143613805079739270465446667948293404245721771497210611414266254884915640806627990306816 := by kernel_rfl
def numO (l : L6) : Num := ⟨val6 l, by have := val6_lt l; rwa [w384] at this⟩
theorem numO_numL (n : Num) : numO (numL n) = n := Fin.ext (val6_lim6 (by rw [w384]; exact n.isLt))
theorem numL_numO (l : L6) : numL (numO l) = l := lim6_val6 l

/-- What stands for many cells: an element, a number. -/
inductive FB where
  | fp (x : Fp)
  | num (x : Num)

def number (a b c d e f : Nat) : Nat :=
  a + 18446744073709551616 * (b + 18446744073709551616 * (c + 18446744073709551616 * (d + 18446744073709551616 * (e + 18446744073709551616 * f))))

/-- The element of a number times 2^384. -/
def ofMont (n : Nat) : Fp := ⟨n * 3231460744492646417066832100176244795738767926513225105051837195607029917124509527734802654356338138714468589979680 % pN, Nat.mod_lt _ (by decide)⟩

def inWords (a b c d e f : Nat) : Bool :=
  decide (a < 18446744073709551616) && decide (b < 18446744073709551616) && decide (c < 18446744073709551616) && decide (d < 18446744073709551616) && decide (e < 18446744073709551616) && decide (f < 18446744073709551616) &&
    decide (mont (ofMont (number a b c d e f)) = number a b c d e f)

def words6 (l : L6) : List UInt64 := [l.1, l.2.1, l.2.2.1, l.2.2.2.1, l.2.2.2.2.1, l.2.2.2.2.2]
def wordsB : FB → L6
  | .fp x => limbs x
  | .num x => numL x

instance : Big FB where
  cells b := cells6 (wordsB b)
  size _ := 6
  len _ := rfl
  one b v hv := by
    simp [cells6] at hv
    rcases hv with rfl | rfl | rfl | rfl | rfl | rfl <;> rfl
  words b := some (words6 (wordsB b))
  words_ok := by
    intro b l h
    simp at h; subst h
    rfl
  like
    | .fp _, [a, b, c, d, e, f] => if inWords a.toNat b.toNat c.toNat d.toNat e.toNat f.toNat then some (.fp (ofMont (number a.toNat b.toNat c.toNat d.toNat e.toNat f.toNat))) else none
    | .num _, [a, b, c, d, e, f] => some (.num (numO (a, b, c, d, e, f)))
    | _, _ => none
  like_ok := by
    intro a l b h
    split at h
    · rename_i x a b c d e f
      split at h
      · rename_i hb
        simp at h; subst h
        simp only [inWords, Bool.and_eq_true, decide_eq_true_eq] at hb
        have hl : limbs (ofMont (number a.toNat b.toNat c.toNat d.toNat e.toNat f.toNat)) = (a, b, c, d, e, f) := by
          apply val6_inj
          rw [val6_limbs, hb.2]
          rfl
        simp only [wordsB, hl]
        rfl
      · cases h
    · simp at h; subst h
      simp only [wordsB, numL_numO]
      rfl
    · cases h

abbrev A := At FB

def fpParse : List (SV A) → Option Fp
  | [.a (.big (.fp x))] => some x
  | [.v (.int .u64 (.ofNat a)), .v (.int .u64 (.ofNat b)), .v (.int .u64 (.ofNat c)), .v (.int .u64 (.ofNat d)), .v (.int .u64 (.ofNat e)), .v (.int .u64 (.ofNat f))] =>
    if inWords a b c d e f then some (ofMont (number a b c d e f)) else none
  | _ => none

instance : Rep A Fp where
  agg := true
  shw x := [.a (.big (.fp x))]
  vals x := cells6 (limbs x)
  parse := fpParse
  is β x := ⟨_, [], rfl, rfl, by simp; rfl⟩
  only := by
    rintro β x vs ⟨u, y, h1, h2, rfl⟩
    obtain rfl : y = [] := h2
    have h3 : u = cells6 (limbs x) := h1
    simp [h3]
  ok := by
    intro β l x vs h e
    unfold fpParse at h
    split at h
    · obtain ⟨u, y, h1, h2, rfl⟩ := e
      obtain rfl : y = [] := h2
      simp at h; subst h
      have h3 : u = _ := h1
      simp [h3]
      rfl
    · rename_i a b c d e' f
      split at h
      · rename_i hb
        simp at h; subst h
        simp only [inWords, Bool.and_eq_true, decide_eq_true_eq] at hb
        obtain ⟨⟨⟨⟨⟨⟨h1, h2⟩, h3⟩, h4⟩, h5⟩, h6⟩, h7⟩ := hb
        obtain ⟨u1, y1, ⟨rfl, _⟩, ⟨u2, y2, ⟨rfl, _⟩, ⟨u3, y3, ⟨rfl, _⟩, ⟨u4, y4, ⟨rfl, _⟩, ⟨u5, y5, ⟨rfl, _⟩, ⟨u6, y6, ⟨rfl, _⟩, k, rfl⟩, rfl⟩, rfl⟩, rfl⟩, rfl⟩, rfl⟩ := e
        obtain rfl : y6 = [] := k
        have hl : limbs (ofMont (number a b c d e' f)) = (UInt64.ofNat a, UInt64.ofNat b, UInt64.ofNat c, UInt64.ofNat d, UInt64.ofNat e', UInt64.ofNat f) := by
          apply val6_inj
          rw [val6_limbs, h7]
          simp only [val6, number, UInt64.toNat_ofNat_of_lt' h1, UInt64.toNat_ofNat_of_lt' h2, UInt64.toNat_ofNat_of_lt' h3, UInt64.toNat_ofNat_of_lt' h4, UInt64.toNat_ofNat_of_lt' h5, UInt64.toNat_ofNat_of_lt' h6]
        rw [hl]
        simp [cells6, UInt64.toNat_ofNat_of_lt' h1, UInt64.toNat_ofNat_of_lt' h2, UInt64.toNat_ofNat_of_lt' h3, UInt64.toNat_ofNat_of_lt' h4, UInt64.toNat_ofNat_of_lt' h5, UInt64.toNat_ofNat_of_lt' h6]
      · cases h
    · cases h
  single h := by cases h

instance : Sized A Fp := ⟨6, fun _ => rfl⟩

end Go.Sh

/- Numbers, rows of bytes, texts as data. -/
namespace Go.Sh

def wordsOf : List (SV A) → Option (List UInt64)
  | [] => some []
  | .a (.u64 x) :: l => match wordsOf l with | some r => some (x :: r) | none => none
  | .a (.cy x) :: l => match wordsOf l with | some r => some (cond x 1 0 :: r) | none => none
  | .v (.int .u64 (.ofNat n)) :: l => if n < 18446744073709551616 then (match wordsOf l with | some r => some (UInt64.ofNat n :: r) | none => none) else none
  | _ => none

theorem wordsOf_is {β : Adr} : ∀ {l : List (SV A)} {vs : List Value} {r : List UInt64}, LIs β l vs → wordsOf l = some r → vs = r.map fun x => Value.int .u64 x.toNat
  | [], vs, r, h, e => by simp [wordsOf] at e; subst e; exact h
  | s :: l, vs, r, ⟨x, y, h1, h2, e'⟩, e => by
    subst e'
    unfold wordsOf at e
    split at e
    · rename_i heq; cases heq
    · rename_i z l' heq
      obtain ⟨rfl, rfl⟩ := List.cons.inj heq
      split at e
      · rename_i r' hr
        simp at e; subst e
        have h3 : x = [Value.int .u64 z.toNat] := h1
        rw [wordsOf_is h2 hr, h3]
        rfl
      · cases e
    · rename_i z l' heq
      obtain ⟨rfl, rfl⟩ := List.cons.inj heq
      split at e
      · rename_i r' hr
        simp at e; subst e
        have h3 : x = [Value.int .u64 (cond z 1 0)] := h1
        rw [wordsOf_is h2 hr, h3]
        cases z <;> rfl
      · cases e
    · rename_i k l' heq
      obtain ⟨rfl, rfl⟩ := List.cons.inj heq
      split at e
      · rename_i hk
        split at e
        · rename_i r' hr
          simp at e; subst e
          obtain ⟨h3, _⟩ := h1
          rw [wordsOf_is h2 hr, h3]
          simp [UInt64.toNat_ofNat_of_lt' hk]
        · cases e
      · cases e
    · cases e

def numParse : List (SV A) → Option Num
  | [.a (.big (.num x))] => some x
  | l => match wordsOf (flat l) with | some [a, b, c, d, e, f] => some (numO (a, b, c, d, e, f)) | _ => none

instance : Rep A Num where
  agg := true
  shw x := [.a (.big (.num x))]
  vals x := cells6 (numL x)
  parse := numParse
  is β x := ⟨_, [], rfl, rfl, by simp; rfl⟩
  only := by
    rintro β x vs ⟨u, y, h1, h2, rfl⟩
    obtain rfl : y = [] := h2
    have h3 : u = cells6 (numL x) := h1
    simp [h3]
  ok := by
    intro β l x vs h e
    unfold numParse at h
    split at h
    · obtain ⟨u, y, h1, h2, rfl⟩ := e
      obtain rfl : y = [] := h2
      simp at h; subst h
      have h3 : u = _ := h1
      simp [h3]
      rfl
    · split at h
      · rename_i a b c d e' f hw
        simp at h; subst h
        rw [wordsOf_is (flat_is e) hw, numL_numO]
        rfl
      · cases h
  single h := by cases h

instance : Sized A Num := ⟨6, fun _ => rfl⟩

/-- A row of n bytes. -/
structure R8 (n : Nat) where
  f : Nat → UInt8

def R8.list {n : Nat} (r : R8 n) : List UInt8 := (List.range n).map r.f

def r8Parse (n : Nat) (l : List (SV A)) : Option (R8 n) :=
  match bytesL (flat l) with
  | some r => if r.length = n then some ⟨pickN 0 r⟩ else none
  | none => none

theorem r8_vals {n : Nat} (l : List UInt8) (h : l.length = n) : ((List.range n).map fun i => Value.int .u8 ((pickN 0 l i).toNat : Int)) = l.map fun x => Value.int .u8 x.toNat := by
  subst h
  exact pickN_range 0 (fun x : UInt8 => Value.int .u8 x.toNat) l

instance (n : Nat) : Rep A (R8 n) where
  agg := true
  shw x := [.a (.w8 n x.f)]
  vals x := (List.range n).map fun i => .int .u8 (x.f i).toNat
  parse := r8Parse n
  is β x := ⟨_, [], rfl, rfl, by simp; rfl⟩
  only := by
    rintro β x vs ⟨u, y, h1, h2, rfl⟩
    obtain rfl : y = [] := h2
    have h3 : u = _ := h1
    simp [h3]
    rfl
  ok := by
    intro β l x vs h e
    unfold r8Parse at h
    split at h
    · rename_i r hr
      split at h
      · rename_i hl
        simp at h; subst h
        rw [bytesL_is (flat_is e) hr]
        exact (r8_vals r hl).symm
      · cases h
    · cases h
  single h := by cases h

instance (n : Nat) : Sized A (R8 n) := ⟨n, fun x => by show ((List.range n).map _).length = n; simp⟩

/-- A number below p, as it is. -/
structure Pl where
  x : Fp

def Pl.num (a : Pl) : Num := ⟨a.x.val, Nat.lt_trans a.x.isLt (by have := pN_lt; rwa [w384] at this)⟩
def plOf (n : Num) : Pl := ⟨⟨n.val % pN, Nat.mod_lt _ (by decide)⟩⟩
theorem plOf_num {n : Num} (h : n.val < pN) : (plOf n).num = n := Fin.ext (Nat.mod_eq_of_lt h)

instance : Arg A Pl where
  G := Unit
  good _ _ _ := True
  tv _ a := Rep.tv a.num
  val _ a := Rep.val (A := A) a.num
  is β _ := Rep.tv_is β _
  parse _ _ t := match argParse (T := Num) t with | some (n, vc) => some (plOf n, (n.val < pN) :: vc) | none => none
  ok := by
    intro c X W0 W β m t x vc v h hvc hm e
    split at h
    · rename_i n vc' hn
      simp at h
      obtain ⟨rfl, rfl⟩ := h
      have h1 : n.val < pN := hvc _ (by simp)
      obtain ⟨g, _, h2⟩ := Arg.ok (A := A) (T := Num) (c := c) (m := m) hn (fun p hp => hvc p (by simp [hp])) hm e
      refine ⟨(), trivial, ?_⟩
      rw [plOf_num h1]
      exact h2
    · cases h

/-- Bytes, not too many. -/
structure Bt where
  l : List UInt8

instance : Arg A Bt where
  G := Spot
  good W g x := HasBytes W x.l g ∧ x.l.length < 1048576
  tv g x := .val false [.e g.a (byteAt x.l) 0 x.l.length g.c]
  val g x := spotVal x.l.length g
  is β h := Arg.is (A := A) (T := Bs) (x := ⟨_⟩) β h.1
  parse old m t := match bsParse old m (asKn t) with | some (b, vc) => some (⟨b.l⟩, (b.l.length < 1048576) :: vc) | none => none
  ok := by
    intro c X W0 W β m t x vc v h hvc hm e
    split at h
    · rename_i b vc' hb
      simp at h
      obtain ⟨rfl, rfl⟩ := h
      obtain ⟨g, h1, h2⟩ := Arg.ok (A := A) (T := Bs) (c := c) (m := m) (t := t) hb (fun p hp => hvc p (by simp [hp])) hm e
      exact ⟨g, ⟨h1, hvc _ (by simp)⟩, h2⟩
    · cases h

/-- The number of bytes, the highest first. -/
def numB : List UInt8 → Nat
  | l => l.foldl (fun n x => 256 * n + x.toNat) 0

end Go.Sh
