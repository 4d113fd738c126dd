/- The laws of fp's: light inputs; the law of the field. -/
import Derived.Test.YtaloefkkllebeaaFe4
import Derived.Test.YtaloefkkllebeaaEn3
set_option linter.unusedVariables false
set_option linter.unusedSimpArgs false
set_option linter.unusedSectionVars false
namespace Go.Proofs.Ytaloefkkllebeaa
open Go Go.Sh

/-- Of the inputs, the k-th is the first that is long (none for k = 0). -/
def lightO (k : Nat) : Nat → Nat → Dec := fun rd t => match Nat.beq t 15 with | true => (match Nat.beq rd k with | true => .take true | false => .take false) | false => .keep
/-- The tests of a list are so, all others hold. -/
def saysY (l : List (Nat × Bool)) : Nat → Nat → Dec := fun _ t =>
  match l with
  | [] => .take true
  | (d, b) :: r => match Nat.beq d t with | true => .take b | false => saysY r 0 t

/-- What is asked where bytes are read as an element. -/
abbrev ReadB (W : World) (g : Spot) (l : List UInt8) : Prop := Reads W.cell? g.a (byteAt (B := FB) l) 0 l.length
abbrev AllU8 (l : List UInt8) : Prop := ∀ j, j < l.length → isU8 (byteAt (B := FB) l (0 + j)) = true

theorem readB {W : World} {g : Spot} {l : List UInt8} (h : HasBytes W l g) : ReadB W g l := reads_bytes h (by omega)
theorem allU8 (l : List UInt8) : AllU8 l := isU8_bytes l 0 l.length
theorem shortB {l : List UInt8} (h : l.length ≤ 128) : (partB l 0 l.length).length < 1048576 := by rw [partB_all]; omega

structure LawsIs (O : UInt64 → Fp) (P D M : Fp → Fp → Fp) (N I : Fp → Fp) (E : Fp → Fp → Bool) (Z : Fp → Bool) : Prop where
  h1 : ∀ a b, E (P a b) (P b a) = true
  h2 : ∀ a b, E (M a b) (M b a) = true
  h3 : ∀ a b c, E (P a (P b c)) (P (P a b) c) = true
  h4 : ∀ a b c, E (M a (M b c)) (M (M a b) c) = true
  h5 : ∀ a b c, E (M a (P b c)) (P (M a b) (M a c)) = true
  h6 : ∀ a b, E (P (D a b) b) a = true
  h7 : ∀ a, Z (P a (N a)) = true
  h8 : ∀ a, E (M a (O 1)) a = true
  h9 : ∀ a, Z a = false → E (M a (I a)) (O 1) = true
  h0 : ∀ a b, Z (M a b) = (Z a || Z b)

end Go.Proofs.Ytaloefkkllebeaa

/- FpLaws, out of the contracts. -/
namespace Go.Proofs.Ytaloefkkllebeaa
open Go Go.Sh

instance : NeZero pN := ⟨by decide⟩
theorem fp_add_comm (a b : Fp) : a + b = b + a := by grind
theorem fp_laws (a b c : Fp) : a + (b + c) = a + b + c ∧ a * (b * c) = a * b * c ∧ a * (b + c) = a * b + a * c ∧ a - b + b = a ∧ a + -a = 0 := by
  refine ⟨?_, ?_, ?_, ?_, ?_⟩ <;> grind

theorem fpOf1 : fpOf 1 = 1 := by kernel_rfl
end Go.Proofs.Ytaloefkkllebeaa

/- Squares and their roots; the law of the roots of a square of two places. -/
namespace Go.Proofs.Ytaloefkkllebeaa
open Go Go.Sh

theorem quarter_n : PowK.n .quarter + PowK.n .quarter + (PowK.n .quarter + PowK.n .quarter) = pN - 1 + (1 + 1) := by
  show (pN + 1) / 4 + (pN + 1) / 4 + ((pN + 1) / 4 + (pN + 1) / 4) = pN - 1 + (1 + 1)
  rw [pN_val]
theorem fpow_p1 (x : Fp) : fpow x (pN - 1 + (1 + 1)) = x * x := by
  by_cases h : x = 0
  · subst h
    rw [Fin.mul_zero]
    exact zero_fpow (by omega)
  · rw [fpow_add, fermatF h, Fin.one_mul, fpow_add, fpow_one]
theorem root_sq (x : Fp) : rootR (x * x) * rootR (x * x) = x * x := by
  unfold rootR
  rw [mul_fpow, ← fpow_add, ← fpow_add, quarter_n, fpow_p1]
theorem sq_eq {a b : Fp} (h : a * a = b * b) : a = b ∨ a = -b := by
  have : (a - b) * (a + b) = 0 := by grind
  rcases mul_eq_zeroF this with e | e
  · left; grind
  · right; grind
theorem sqrt_sq (x : Fp) : (sqrtF (x * x)).b = true ∧ ((sqrtF (x * x)).a = x ∨ (sqrtF (x * x)).a = -x) := by
  have h := root_sq x
  have h2 := sq_eq h
  unfold sqrtF
  rw [if_pos h]
  split
  · refine ⟨rfl, ?_⟩
    show -rootR (x * x) = x ∨ -rootR (x * x) = -x
    rcases h2 with e | e <;> rw [e]
    · exact .inr rfl
    · left; grind
  · exact ⟨rfl, h2⟩

structure SolvesIs (O : UInt64 → Fp) (P D M : Fp → Fp → Fp) (Q I : Fp → Fp) (S : Fp → T2 Fp Bool) (E : Fp → Fp → Bool) : Prop where
  h1 : ∀ a b, (S (D (Q (P a b)) (M (M a b) (O 4)))).b = true
  h2 : ∀ a b, E (M (P (P a b) (S (D (Q (P a b)) (M (M a b) (O 4)))).a) (I (O 2))) a = true → E (M (D (P a b) (S (D (Q (P a b)) (M (M a b) (O 4)))).a) (I (O 2))) b = true
  h3 : ∀ a b, E (M (P (P a b) (S (D (Q (P a b)) (M (M a b) (O 4)))).a) (I (O 2))) a = false → E (M (P (P a b) (S (D (Q (P a b)) (M (M a b) (O 4)))).a) (I (O 2))) b = true ∧ E (M (D (P a b) (S (D (Q (P a b)) (M (M a b) (O 4)))).a) (I (O 2))) a = true

theorem fpOf2 : fpOf 2 = 1 + 1 := by kernel_rfl
theorem fpOf4 : fpOf 4 = (1 + 1) * (1 + 1) := by kernel_rfl
theorem two_inv : (1 + 1) * invF (fpOf 2) = 1 := by
  have h : fpOf 2 ≠ 0 := by intro h; exact absurd (congrArg Fin.val h) (by decide)
  have := mul_invF h
  rwa [fpOf2] at this ⊢
theorem disc (a b : Fp) : (a + b) * (a + b) - a * b * fpOf 4 = (a - b) * (a - b) := by rw [fpOf4]; grind
theorem solve_of (s t d h x y : Fp) (hh : (1 + 1) * h = 1) (hs : s = x + y) (hd : d = x - y) : (s + d) * h = x ∧ (s - d) * h = y := by
  subst hs hd
  constructor <;> grind

end Go.Proofs.Ytaloefkkllebeaa

/- The reference's numbers of bytes. -/
namespace Go.Proofs.Ytaloefkkllebeaa
open Go Go.Sh

/-- a or byte x, shifted by s, as the reference takes it. -/
def orRef (a : UInt64) (x : UInt8) (s : Int) : UInt64 :=
  UInt64.ofNat (((BitVec.ofInt IntKind.u64.bits (a.toNat : Int) ||| BitVec.ofInt IntKind.u64.bits ((UInt64.ofNat (((UInt64.ofNat ((x.toNat : Int) % 18446744073709551616).toNat).toNat : Int) * 2 ^ min s.toNat IntKind.u64.bits % 18446744073709551616).toNat).toNat : Int)).toNat : Int) % 18446744073709551616).toNat
theorem orRef_eq (a : UInt64) (x : UInt8) {s : Int} (h0 : 0 ≤ s) (h1 : s < 64) : orRef a x s = orRaw a x s := by
  have e : ((UInt64.ofNat (s % 18446744073709551616).toNat).toNat : Int).toNat = s.toNat := by
    rw [Int.toNat_natCast, UInt64.toNat_ofNat_of_lt' (by show (s % 18446744073709551616).toNat < 18446744073709551616; omega)]
    omega
  unfold orRef orRaw
  rw [e]

/-- The loop of the reference's From, at its head: k bytes have been. -/
def rfromSt (g : Spot) (l : List UInt8) (f : Nat → UInt64) (k : Nat) : St A :=
  ⟨slots 0 38 [(0, .val false [.e g.a (byteAt l) 0 l.length g.c]), (2, .val false [.p 0 0]), (3, .val false [.v (.bool false)]), (4, .val false [.p 1 0]), (5, .val false [.n .i64 k])],
   [some ⟨lit6, 27, false⟩, some ⟨[.a (.w64 6 f)], 27, false⟩], 0, [], []⟩

theorem rfrom_loop (W : World) (g : Spot) (l : List UInt8) (hg : HasBytes W l g) (hl : l.length ≤ 48) : SoundFor Try.prog W.cell? [] (.loop (loopNo Try.f28 5)) (rfromSt g l zero64 0) (.exit 0) (rfromSt g l (fromF l l.length) l.length) := by
  intro c e1 e2 e3 e4
  refine loopAt (inv := fun k => rfromSt g l (fromF l k) k) (N := l.length) (by simp) (fun k hk => ?_) ?_
  · have hz : (l.length : Int) - 1 - k = ((l.length - 1 - k : Nat) : Int) := by omega
    have h1 : ((l.length : Int) - 1 - k).tdiv 8 = ((l.length - 1 - k) / 8 : Nat) := by rw [hz]; rfl
    have h2 : ((l.length : Int) - 1 - k).tmod 8 = ((l.length - 1 - k) % 8 : Nat) := by rw [hz]; rfl
    have h3 : fromF l (k + 1) = upd (fromF l k) (((l.length : Int) - 1 - k).tdiv 8).toNat (orRef (fromF l k (((l.length : Int) - 1 - k).tdiv 8).toNat) (l.getD k 0) (8 * ((l.length : Int) - 1 - k).tmod 8)) := by
      rw [orRef_eq _ _ (by rw [h2]; omega) (by rw [h2]; omega)]
      rfl
    rw [h3]
    refine Round.of0 (TblOK.nil _) (says [(14, true)]) 4
      [WrapI ((k : Int) + 1), Idx (((l.length : Int) - 1 - k).tdiv 8) 6, (0 : Int) ≤ 8 * ((l.length : Int) - 1 - k).tmod 8, WrapI (8 * ((l.length : Int) - 1 - k).tmod 8),
        Reads W.cell? g.a (byteAt (B := FB) l) k 1, Idx k l.length, Idx (((l.length : Int) - 1 - k).tdiv 8) 6, WrapI (((l.length : Int) - 1 - k).tdiv 8), WrapI ((l.length : Int) - 1 - k), WrapI ((l.length : Int) - 1), decide ((k : Int) < l.length) = true]
      (by kernel_rfl) ?_ (by kernel_rfl) (by kernel_rfl) e1 e2 e3 e4
    refine ⟨wrapI (by omega) (by omega), ⟨by rw [h1]; omega, by rw [h1]; omega⟩, by rw [h2]; omega, wrapI (by rw [h2]; omega) (by rw [h2]; omega), reads_bytes hg (by omega), ⟨by omega, by omega⟩, ⟨by rw [h1]; omega, by rw [h1]; omega⟩, wrapI (by rw [h1]; omega) (by rw [h1]; omega),
      wrapI (by omega) (by omega), wrapI (by omega) (by omega), decide_eq_true (by omega), trivial⟩
  · exact Round.of0 (TblOK.nil _) (says [(14, false)]) 4 [decide ((l.length : Int) < l.length) = false] (by kernel_rfl) ⟨decide_eq_false (by omega), trivial⟩ (by kernel_rfl) (by kernel_rfl) e1 e2 e3 e4

theorem rfromRaw_ok : Computes A Try.prog 28 (fun x : Bs × Unit => if x.1.l.length ≤ 48 then T2.mk (numO (fromF x.1.l x.1.l.length 0, fromF x.1.l x.1.l.length 1, fromF x.1.l x.1.l.length 2, fromF x.1.l x.1.l.length 3, fromF x.1.l x.1.l.length 4, fromF x.1.l x.1.l.length 5)) true else T2.mk (0 : Num) false) := by
  refine computes_of_runW (TblOK.nil _) (ITblOK.nil _) Try.func28 (by kernel_rfl) (by kernel_rfl) 4 ?_
  rintro ⟨g, _⟩ ⟨⟨l⟩, ⟨⟩⟩ W ⟨hg, _⟩
  by_cases hl : l.length ≤ 48
  · obtain ⟨F, hF⟩ : ∃ F, F = fromF l l.length := ⟨_, rfl⟩
    have hs := rfrom_loop W g l hg hl
    rw [← hF] at hs
    refine ⟨says [(9, false)], lps [(5, rfromSt g l zero64 0, .exit 0, rfromSt g l F l.length)], _, _, (by kernel_rfl : _ = some (some (T2.mk (numO (F 0, F 1, F 2, F 3, F 4, F 5)) true), [ToldIs (rfromSt g l zero64 0), decide ((l.length : Int) > 48) = false])),
      ⟨toldIs _, decide_eq_false (by omega), trivial⟩, ?_, ?_⟩
    · simp only [hl, if_true, hF]
    · intro body hb
      refine LoopsFor.cons ?_ hs LoopsFor.nil
      obtain rfl := Option.some.inj hb
      kernel_rfl
  · refine ⟨says [(9, true)], noLoop, _, _, (by kernel_rfl : _ = some (some (T2.mk (0 : Num) false), [decide ((l.length : Int) > 48) = true])), ⟨decide_eq_true (by omega), trivial⟩, ?_, fun body _ => loopsFor_none⟩
    simp only [hl, if_false]

theorem refFrom_ok : Computes A Try.prog 28 (fun x : Bs × Unit => fromB x.1.l) := by
  refine Computes.eq rfromRaw_ok (fun x => ?_)
  obtain ⟨⟨l⟩, ⟨⟩⟩ := x
  simp only [fromB, numOfB]
  by_cases h : l.length ≤ 48
  · simp only [h, if_true, dif_pos, decide_true]
    congr 1
    apply Fin.ext
    show valF (fromF l l.length) = numB l
    rw [fromF_val h l.length (Nat.le_refl _)]
    simp
  · simp only [h, if_false, dif_neg, not_false_eq_true, decide_false]

/-! ### The number of the bytes of a number -/
theorem numB_range (k : Nat) : ∀ n, numB ((List.range k).map fun i => UInt8.ofNat (n / 256 ^ (k - 1 - i) % 256)) = n % 256 ^ k := by
  induction k with
  | zero => intro n; simp [numB]; omega
  | succ k ih =>
    intro n
    rw [List.range_succ, List.map_append]
    show numB (_ ++ [_]) = _
    rw [numB_snoc]
    have e : (List.range k).map (fun i => UInt8.ofNat (n / 256 ^ (k + 1 - 1 - i) % 256)) = (List.range k).map fun i => UInt8.ofNat ((n / 256) / 256 ^ (k - 1 - i) % 256) := by
      apply List.map_congr_left
      intro i hi
      have hi : i < k := List.mem_range.1 hi
      rw [Nat.div_div_eq_div_mul, ← Nat.pow_add_one']
      congr 4
      omega
    rw [e, ih]
    show 256 * (n / 256 % 256 ^ k) + (UInt8.ofNat (n / 256 ^ (k + 1 - 1 - k) % 256)).toNat = _
    have hb : ∀ z : Nat, (UInt8.ofNat (z % 256)).toNat = z % 256 := fun z => by
      rw [UInt8.toNat_ofNat']
      omega
    rw [show k + 1 - 1 - k = 0 by omega, Nat.pow_zero, Nat.div_one, hb, Nat.pow_succ, Nat.mul_comm (256 ^ k) 256, Nat.mod_mul]
    omega
theorem numB_bytesN {n : Nat} (h : n < 256 ^ 48) : numB ((List.range 48).map (byteN n)) = n := by
  have := numB_range 48 n
  rw [Nat.mod_eq_of_lt h] at this
  exact this
theorem fp_lt (a : Fp) : a.val < 256 ^ 48 := Nat.lt_trans a.isLt (by rw [pN_val]; decide)

end Go.Proofs.Ytaloefkkllebeaa

/- The document's element; what is the same. -/
namespace Go.Proofs.Ytaloefkkllebeaa
open Go Go.Sh

def tblRef : List (Row A) := [rowOf A 28 (fun x : Bs × Unit => fromB x.1.l)]
theorem tblRef_ok : TblOK Try.prog tblRef := .cons refFrom_ok.row (.nil _)

theorem from_bytes (a : Fp) : (fromB (listB (byteN a.val))).a.val = a.val := by
  show (numOfB (listB (byteN a.val))).val = a.val
  unfold numOfB
  rw [dif_pos (by show ((List.range 48).map _).length ≤ 48; simp)]
  exact numB_bytesN (fp_lt a)

/-- Are the bytes from i on, n of them, the same? -/
def eqB (f g : Nat → UInt8) : Nat → Nat → Bool
  | 0, _ => true
  | n + 1, i => ((f i).toNat : Int) == (g i).toNat && eqB f g n (i + 1)
theorem eqB_true {f g : Nat → UInt8} : ∀ {n i : Nat}, eqB f g n i = true → ∀ j, j < n → f (i + j) = g (i + j)
  | n + 1, i, h, j, hj => by
    simp only [eqB, Bool.and_eq_true] at h
    cases j with
    | zero =>
      have h1 : ((f i).toNat : Int) = (g i).toNat := eq_of_beq h.1
      rw [Nat.add_zero]
      exact UInt8.toNat_inj.1 (Int.ofNat.inj h1)
    | succ j =>
      have := eqB_true h.2 j (by omega)
      rwa [show i + 1 + j = i + (j + 1) by omega] at this
theorem eqB_self (f : Nat → UInt8) : ∀ n i : Nat, eqB f f n i = true
  | 0, _ => rfl
  | n + 1, i => by simp only [eqB, Bool.and_eq_true]; exact ⟨by simp, eqB_self f n (i + 1)⟩
theorem eqB_bytes (a b : Fp) : eqB (byteN a.val) (byteN b.val) 48 0 = decide (a = b) := by
  by_cases h : a = b
  · subst h; rw [eqB_self, decide_eq_true rfl]
  · rw [decide_eq_false h]
    cases e : eqB (byteN a.val) (byteN b.val) 48 0 with
    | false => rfl
    | true =>
      have h1 := eqB_true e
      have : (List.range 48).map (byteN a.val) = (List.range 48).map (byteN b.val) := by
        apply List.map_congr_left
        intro i hi
        have := h1 i (List.mem_range.1 hi)
        simpa using this
      have h2 := congrArg numB this
      rw [numB_bytesN (fp_lt a), numB_bytesN (fp_lt b)] at h2
      exact absurd (Fin.ext h2) h

def tblSame : List (Row A) := [rowOf A 30 (fun x : Num × Unit => bytesN x.1.val)]
theorem tblSame_ok : TblOK Try.prog tblSame := .cons refBytes_ok.row (.nil _)
end Go.Proofs.Ytaloefkkllebeaa
