/- The law of bits. -/
import Derived.Test.YtaloefkkllebeaaLk5
import Derived.Test.YtaloefkkllebeaaLi8
set_option linter.unusedVariables false
set_option linter.unusedSimpArgs false
set_option linter.unusedSectionVars false
namespace Go.Proofs.Ytaloefkkllebeaa
open Go Go.Sh
/-- A bit, as it is taken. -/
def bitT (a : Num) (i : Int) : Bool :=
  (((UInt64.ofNat (((BitVec.ofInt IntKind.u64.bits ((UInt64.ofNat ((wN a (i.tdiv 64).toNat).toNat / 2 ^ min (i.tmod 64).toNat IntKind.u64.bits)).toNat : Int) &&& BitVec.ofInt IntKind.u64.bits 1).toNat : Int) % 18446744073709551616).toNat).toNat : Int) == 1)
theorem and_oneN (m : Nat) (h : m < 18446744073709551616) : (BitVec.ofInt IntKind.u64.bits (m : Int) &&& BitVec.ofInt IntKind.u64.bits 1).toNat = m % 2 := by
  show (BitVec.ofInt 64 (m : Int) &&& BitVec.ofInt 64 1).toNat = _
  rw [BitVec.toNat_and, BitVec.ofInt_natCast, BitVec.toNat_ofNat, Nat.mod_eq_of_lt (show m < 2 ^ 64 from h)]
  exact Nat.and_one_is_mod m
theorem bitT_nat (a : Num) (i : Nat) (h : i < 384) : bitT a (i : Int) = a.val.testBit i := by
  have d1 : ((i : Int).tdiv 64).toNat = i / 64 := rfl
  have d2 : ((i : Int).tmod 64).toNat = i % 64 := rfl
  unfold bitT
  rw [d1, d2, show min (i % 64) IntKind.u64.bits = i % 64 from Nat.min_eq_left (by show i % 64 ≤ 64; omega)]
  have hw := (wN a (i / 64)).toNat_lt
  have hq := Nat.lt_of_le_of_lt (Nat.div_le_self (wN a (i / 64)).toNat (2 ^ (i % 64))) hw
  rw [UInt64.toNat_ofNat_of_lt' (show _ < 18446744073709551616 from hq), and_oneN _ hq]
  have h3 : (((((wN a (i / 64)).toNat / 2 ^ (i % 64)) % 2 : Nat) : Int) % 18446744073709551616).toNat = ((wN a (i / 64)).toNat / 2 ^ (i % 64)) % 2 := by omega
  rw [h3, UInt64.toNat_ofNat_of_lt' (show _ < 18446744073709551616 by omega), wN_nat a (by omega), Nat.testBit_eq_decide_div_mod_eq]
  have h4 : a.val / 2 ^ (64 * (i / 64)) % 2 ^ 64 / 2 ^ (i % 64) % 2 = a.val / 2 ^ i % 2 := by
    have e1 : (a.val / 2 ^ (64 * (i / 64)) % 2 ^ 64).testBit (i % 64) = a.val.testBit i := by
      rw [Nat.testBit_mod_two_pow, Nat.testBit_div_two_pow, show i % 64 + 64 * (i / 64) = i by omega]
      simp [Nat.mod_lt]
    have e2 := Nat.testBit_eq_decide_div_mod_eq (x := a.val / 2 ^ (64 * (i / 64)) % 2 ^ 64) (i := i % 64)
    have e3 := Nat.testBit_eq_decide_div_mod_eq (x := a.val) (i := i)
    rw [e1, e3] at e2
    have := decide_eq_decide.1 e2
    omega
  rw [h4]
  generalize a.val / 2 ^ i % 2 = z
  by_cases hz : z = 1
  · subst hz; rfl
  · rw [decide_eq_false hz]
    simp only [beq_eq_false_iff_ne, ne_eq]
    omega
section
variable (a : Num) (most : Int)
def wSA (f : Nat → A) (n : Nat) (i : Int) : St A := ⟨slots 0 44 [(1, .val false [.n .i64 most]), (2, .val false [.p 0 0]), (4, .val false [.v (.bool false)]), (5, .val false [.gr f 1 n n 1]), (6, .val false [.n .i64 i])], [some ⟨[.a (.big (.num a))], 23, false⟩, some ⟨[.mk n n], 3, false⟩], 0, [], []⟩
def wEA (f : Nat → A) (n : Nat) : St A := ⟨slots 0 44 [(1, .val false [.n .i64 most]), (2, .val false [.p 0 0]), (4, .val false [.v (.bool false)]), (5, .val false [.gr f 1 n n 1])], [some ⟨[.a (.big (.num a))], 23, false⟩, some ⟨[.mk n n], 3, false⟩], 0, [], []⟩
variable {old : Addr → Option Value} {k : Cfg A} (e1 : k.P = Try.prog) (e2 : k.gl = (fun _ => none)) (e3 : k.old = old) (e4 : k.ys = [])
include e1 e2 e3 e4
theorem wSA_go (htop : a.val < 2 ^ 384) : ∀ (i : Nat) (R : List Int), i ≤ 384 → R.length + i ≤ 384 →
    Goes k (loopNo Try.f7 5) (wSA a most (FR R) R.length ((i : Int) - 1)) (.exit 0) (wEA a most (FR (((tops i a.val).map fun j : Nat => (j : Int)).reverse ++ R)) (((tops i a.val).map fun j : Nat => (j : Int)).reverse ++ R).length)
  | 0, R, _, _ => .last (by simp) (Round.of0 (TblOK.nil _) (says [(10, false)]) 4 [decide (((0 : Nat) : Int) - 1 ≥ 0) = false] (by kernel_rfl) ⟨by decide, trivial⟩ (by kernel_rfl) (by kernel_rfl) e1 e2 e3 e4)
  | i + 1, R, hi, hR => by
    have hb := bitT_nat a i (by omega)
    have hh : ((i + 1 : Nat) : Int) - 1 = (i : Int) := by omega
    rw [hh]
    have w1 : WrapI ((i : Int) - 1) := wrapI (by omega) (by omega)
    have d1 : ((i : Int).tdiv 64) = ((i / 64 : Nat) : Int) := rfl
    have d2 : ((i : Int).tmod 64) = ((i % 64 : Nat) : Int) := rfl
    have w2 : WrapI ((i : Int).tdiv 64) := by rw [d1]; exact wrapI (by omega) (by omega)
    have w3 : Idx ((i : Int).tdiv 64) 6 := by rw [d1]; exact ⟨by omega, by omega⟩
    have w4 : (0 : Int) ≤ (i : Int).tmod 64 := by rw [d2]; omega
    have w5 : decide ((i : Int) ≥ 0) = true := decide_eq_true (by omega)
    have ht : timesN R.length (0 + 1) = R.length := by rw [timesN_eq, Nat.zero_add, Nat.mul_one]
    unfold tops
    rw [← hb]
    cases hbit : bitT a (i : Int) with
    | true =>
      have ih := wSA_go htop i ((i : Int) :: R) (by omega) (by simp; omega)
      have st : Round k (loopNo Try.f7 5) (wSA a most (FR R) R.length (i : Int)) .normal (wSA a most (FR ((i : Int) :: R)) ((i : Int) :: R).length ((i : Int) - 1)) :=
        Round.of0 (TblOK.nil _) (says [(10, true), (21, true)]) 4 [WrapI ((i : Int) - 1), R.length = R.length ∧ timesN R.length (0 + 1) = R.length ∧ Sh.Bears (R.length + 1) 8, bitT a (i : Int) = true, (0 : Int) ≤ (i : Int).tmod 64, Idx ((i : Int).tdiv 64) 6, WrapI ((i : Int).tdiv 64), decide ((i : Int) ≥ 0) = true] (by kernel_rfl) ⟨w1, ⟨rfl, ht, ⟨by omega, by unfold maxLen; omega⟩⟩, hbit, w4, w3, w2, w5, trivial⟩ (by kernel_rfl) (by kernel_rfl) e1 e2 e3 e4
      refine .step st ?_
      simpa using ih
    | false =>
      have ih := wSA_go htop i R (by omega) (by omega)
      have st : Round k (loopNo Try.f7 5) (wSA a most (FR R) R.length (i : Int)) .normal (wSA a most (FR R) R.length ((i : Int) - 1)) :=
        Round.of0 (TblOK.nil _) (says [(10, true), (21, false)]) 4 [WrapI ((i : Int) - 1), bitT a (i : Int) = false, (0 : Int) ≤ (i : Int).tmod 64, Idx ((i : Int).tdiv 64) 6, WrapI ((i : Int).tdiv 64), decide ((i : Int) ≥ 0) = true] (by kernel_rfl) ⟨w1, hbit, w4, w3, w2, w5, trivial⟩ (by kernel_rfl) (by kernel_rfl) e1 e2 e3 e4
      exact .step st ih
end
/-- What is read of a slice of numbers. -/
def fL (f : Nat → A) (n : Nat) : List Int := (List.range n).map fun j => i64of (f (0 + j))
theorem fL_int (l : List Int) : fL (intAt l) l.length = l := by
  apply List.ext_getElem
  · simp [fL]
  · intro j h1 h2
    simp [fL] at h1
    simp [fL, intAt, i64of, List.getD_eq_getElem?_getD, h1]
theorem fL_FR (R : List Int) (n : Nat) (h : n ≤ R.length) : fL (FR R) n = R.reverse.take n := by
  apply List.ext_getElem
  · simp [fL]; omega
  · intro j h1 h2
    simp [fL] at h1
    simp only [fL, List.getElem_map, List.getElem_range, Nat.zero_add, List.getElem_take]
    rw [FR_get R j (by omega), List.getD_eq_getElem?_getD, List.getElem?_eq_getElem (by simp; omega)]
    rfl
theorem isI64_FR (R : List Int) (n : Nat) (h : n ≤ R.length) : ∀ j, j < n → isI64 (FR R (0 + j)) = true := fun j hj => by rw [Nat.zero_add, FR_get R j (by omega)]; rfl
theorem isI64_int (l : List Int) (n : Nat) : ∀ j, j < n → isI64 (intAt (B := FB) l (0 + j)) = true := fun j hj => rfl
/-- A place below n + 1. -/
theorem place_lt (most : Int) (n : Nat) : (decide (most.tmod ((n : Int) + 1) < 0) = false → 0 ≤ most.tmod ((n : Int) + 1) ∧ most.tmod ((n : Int) + 1) ≤ n) ∧
    (decide (most.tmod ((n : Int) + 1) < 0) = true → 0 ≤ most.tmod ((n : Int) + 1) + ((n : Int) + 1) ∧ most.tmod ((n : Int) + 1) + ((n : Int) + 1) ≤ n) := by
  have h1 := Int.tmod_lt_of_pos most (show (0 : Int) < (n : Int) + 1 by omega)
  have h2 := Int.lt_tmod_of_pos most (show (0 : Int) < (n : Int) + 1 by omega)
  constructor
  · intro h
    have h := of_decide_eq_false h
    omega
  · intro h
    have h := of_decide_eq_true h
    omega
section
variable (Wk : Num → Int → Iz) (E : List Int → List Int → Bool)
noncomputable def tbA (b : Bool) : List (Row A) := [rowOf A 13 (fun _ : Unit => true), rowOf A 26 (fun x : Num × Int × Unit => Wk x.1 x.2.1), rowOf A 25 (fun x : Is × Is × Unit => E x.1.l x.2.1.l), rowIn Try.prog [] [] (says [(9, b)]) 4 24 Try.f24]
def orA : Nat → Nat → Dec := fun _ t => match Nat.beq t 5 with | true => .grow 3 1 | false => saysY [] 0 t
def vcA (a : Num) (z : Int) (f : Nat → A) (n : Nat) (l : List Prop) : List Prop :=
  (E (fL (intAt (Wk a 400).l) (Wk a 400).l.length) (fL f n) = true) :: (∀ j, j < (Wk a 400).l.length → isI64 (intAt (B := FB) (Wk a 400).l (0 + j)) = true) :: ((Wk a 400).l.length < 1048576) :: (∀ j, j < n → isI64 (f (0 + j)) = true) :: (n < 1048576) ::
  (E (fL (intAt (Wk a z).l) (Wk a z).l.length) (fL f (z.toNat - 0)) = true) :: (∀ j, j < (Wk a z).l.length → isI64 (intAt (B := FB) (Wk a z).l (0 + j)) = true) :: ((Wk a z).l.length < 1048576) :: (∀ j, j < z.toNat - 0 → isI64 (f (0 + j)) = true) :: (z.toNat - 0 < 1048576) :: (0 ≤ z ∧ z ≤ n) :: l
theorem bitsA_of (ht : ∀ b, TblOK Try.prog (tbA Wk E b)) (hW : ∀ a most, (Wk a most).l = (bitsI a).take most.toNat) (hE : ∀ x, E x x = true) :
    Computes A Try.prog 7 (fun _ : Num × Int × Unit => true) := by
  refine computes_of_runT Try.func7 (by kernel_rfl) (by kernel_rfl) 8 ?_
  rintro _ ⟨a, most, ⟨⟩⟩ W -
  have hs : SoundFor Try.prog W.cell? [] (.loop (loopNo Try.f7 5)) (wSA a most (FR []) 0 383) (.exit 0) (wEA a most (FR ((bitsI a).reverse ++ [])) ((bitsI a).reverse ++ []).length) :=
    fun c q1 q2 q3 q4 => (wSA_go a most (k := c) q1 q2 q3 q4 (by rw [w384]; exact a.isLt) 384 [] (Nat.le_refl _) (by simp)).sound
  rw [List.append_nil] at hs
  have hlen := bitsI_len a
  have hR : (bitsI a).reverse.reverse = bitsI a := List.reverse_reverse _
  have hn : (bitsI a).reverse.length = (bitsI a).length := List.length_reverse
  have hWl : ∀ z, (Wk a z).l.length < 1048576 := fun z => by rw [hW, List.length_take]; omega
  have h1 : ∀ z : Int, 0 ≤ z ∧ z ≤ ((bitsI a).reverse.length : Int) → E (fL (intAt (Wk a z).l) (Wk a z).l.length) (fL (FR (bitsI a).reverse) (z.toNat - 0)) = true := fun z hz => by
    rw [fL_int, fL_FR _ _ (by omega), hR, hW, Nat.sub_zero]; exact hE _
  have h2 : E (fL (intAt (Wk a 400).l) (Wk a 400).l.length) (fL (FR (bitsI a).reverse) (bitsI a).reverse.length) = true := by
    rw [fL_int, fL_FR _ _ (Nat.le_refl _), hR, hn, hW, List.take_length, List.take_of_length_le (by show _ ≤ 400; omega)]; exact hE _
  have hF := isI64_FR (bitsI a).reverse
  have hnb : (bitsI a).reverse.length ≤ 384 := by omega
  revert hs h1 h2 hF hnb
  clear hR hn hlen
  generalize (bitsI a).reverse = R
  intro hs h1 h2 hF hnb
  have hp := place_lt most R.length
  have w1 : WrapI ((R.length : Int) + 1) := wrapI (by omega) (by omega)
  have w2 : (R.length : Int) + 1 ≠ 0 := by omega
  have all : ∀ (z : Int) (l : List Prop), 0 ≤ z ∧ z ≤ (R.length : Int) → All l → All (vcA Wk E a z (FR R) R.length l) := fun z l hz hl =>
    ⟨h2, isI64_int _ _, hWl _, hF _ (Nat.le_refl _), by omega, h1 z hz, isI64_int _ _, hWl _, hF _ (by omega), by omega, hz, hl⟩
  have hl : ∀ body, Try.f7.body = some body → LoopsFor Try.prog W.cell? [] (lps [(5, wSA a most (FR []) 0 383, .exit 0, wEA a most (FR R) R.length)]) body := fun body hb => by
    refine LoopsFor.cons ?_ hs LoopsFor.nil
    obtain rfl := Option.some.inj hb
    kernel_rfl
  cases hd : decide (most.tmod ((R.length : Int) + 1) < 0) with
  | false =>
    exact ⟨tbA Wk E false, [], ht false, ITblOK.nil _, orA, lps [(5, wSA a most (FR []) 0 383, .exit 0, wEA a most (FR R) R.length)], true,
      vcA Wk E a (most.tmod ((R.length : Int) + 1)) (FR R) R.length [decide (most.tmod ((R.length : Int) + 1) < 0) = false, (R.length : Int) + 1 ≠ 0, WrapI ((R.length : Int) + 1), ToldIs (wSA a most (FR []) 0 383), true = true], by kernel_rfl,
      all _ _ (hp.1 hd) ⟨hd, w2, w1, toldIs _, rfl, trivial⟩, rfl, hl⟩
  | true =>
    exact ⟨tbA Wk E true, [], ht true, ITblOK.nil _, orA, lps [(5, wSA a most (FR []) 0 383, .exit 0, wEA a most (FR R) R.length)], true,
      vcA Wk E a (most.tmod ((R.length : Int) + 1) + ((R.length : Int) + 1)) (FR R) R.length [WrapI (most.tmod ((R.length : Int) + 1) + ((R.length : Int) + 1)), decide (most.tmod ((R.length : Int) + 1) < 0) = true, (R.length : Int) + 1 ≠ 0, WrapI ((R.length : Int) + 1), ToldIs (wSA a most (FR []) 0 383), true = true], by kernel_rfl,
      all _ _ (hp.2 hd) ⟨wrapI (by have := (hp.2 hd).1; omega) (by have := (hp.2 hd).2; omega), hd, w2, w1, toldIs _, rfl, trivial⟩, rfl, hl⟩
end
theorem limbsBits_ok : Computes A Try.prog 7 (fun _ : Num × Int × Unit => true) :=
  bitsA_of (fun a most => ⟨(bitsI a).take most.toNat⟩) (fun x y => decide (x = y))
    (fun b => .cons known2_ok.row (.cons walk_ok.row (.cons intsA_ok.row (.cons (rowIn_ok (TblOK.nil _) (ITblOK.nil _) (says [(9, b)]) 4 Try.func24 (by kernel_rfl) (by kernel_rfl)) (.nil _))))) (fun _ _ => rfl) (fun _ => decide_eq_true rfl)
end Go.Proofs.Ytaloefkkllebeaa
