/- The laws of fp's: light inputs; the law of the field. -/
import Derived.Test.YtbdbmcdcjejffaaFe4
import Derived.Test.YtbdbmcdcjejffaaEn3
set_option linter.unusedVariables false
set_option linter.unusedSimpArgs false
set_option linter.unusedSectionVars false
namespace Go.Proofs.Ytbdbmcdcjejffaa
open Go Go.Sh

/-- Of the inputs, the k-th is the first that is long (none for k = 0). -/
def lightO (k : Nat) : Nat → Nat → Dec := fun rd t => match Nat.beq t 15 with | true => (match Nat.beq rd k with | true => .take true | false => .take false) | false => .keep
noncomputable def lightRow (k : Nat) : Row A := rowIn Try.prog [] [] (lightO k) 8 26 Try.f26
theorem lightRow_ok (k : Nat) : RowOK Try.prog (lightRow k) := rowIn_ok (TblOK.nil _) (ITblOK.nil _) (lightO k) 8 Try.func26 (by kernel_rfl) (by kernel_rfl)

noncomputable def tblLaws (k : Nat) (Wd : List UInt8 → Fp) (O : UInt64 → Fp) (P D M : Fp → Fp → Fp) (N I : Fp → Fp) (E : Fp → Fp → Bool) (Z : Fp → Bool) : List (Row A) :=
  [rowOf A 25 (fun _ : Unit => true), lightRow k, rowOf A 35 (fun x : Bt × Unit => Wd x.1.l), rowOf A 38 (fun x : UInt64 × Unit => O x.1),
    rowOf A 41 (fun x : Fp × Fp × Unit => P x.1 x.2.1), rowOf A 43 (fun x : Fp × Fp × Unit => D x.1 x.2.1), rowOf A 45 (fun x : Fp × Fp × Unit => M x.1 x.2.1),
    rowOf A 48 (fun x : Fp × Unit => N x.1), rowOf A 50 (fun x : Fp × Unit => I x.1),
    rowOf A 52 (fun x : Fp × Fp × Unit => E x.1 x.2.1), rowOf A 31 (fun x : Fp × Unit => Z x.1)]

/-- The tests of a list are so, all others hold. -/
def saysY (l : List (Nat × Bool)) : Nat → Nat → Dec := fun _ t =>
  match l with
  | [] => .take true
  | (d, b) :: r => match Nat.beq d t with | true => .take b | false => saysY r 0 t

/-- What is asked where bytes are read as an element. -/
abbrev ReadB (W : World) (g : Spot) (l : List UInt8) : Prop := Reads W.cell? g.a (byteAt (B := FB) l) 0 l.length
abbrev AllU8 (l : List UInt8) : Prop := ∀ j, j < l.length → isU8 (byteAt (B := FB) l (0 + j)) = true

theorem readB {W : World} {g : Spot} {l : List UInt8} (h : HasBytes W l g) : ReadB W g l := reads_bytes h (by omega)
theorem allU8 (l : List UInt8) : AllU8 l := isU8_bytes l 0 l.length
theorem shortB {l : List UInt8} (h : l.length ≤ 128) : (partB l 0 l.length).length < 1048576 := by rw [partB_all]; omega

structure LawsIs (O : UInt64 → Fp) (P D M : Fp → Fp → Fp) (N I : Fp → Fp) (E : Fp → Fp → Bool) (Z : Fp → Bool) : Prop where
  h1 : ∀ a b, E (P a b) (P b a) = true
  h2 : ∀ a b, E (M a b) (M b a) = true
  h3 : ∀ a b c, E (P a (P b c)) (P (P a b) c) = true
  h4 : ∀ a b c, E (M a (M b c)) (M (M a b) c) = true
  h5 : ∀ a b c, E (M a (P b c)) (P (M a b) (M a c)) = true
  h6 : ∀ a b, E (P (D a b) b) a = true
  h7 : ∀ a, Z (P a (N a)) = true
  h8 : ∀ a, E (M a (O 1)) a = true
  h9 : ∀ a, Z a = false → E (M a (I a)) (O 1) = true
  h0 : ∀ a b, Z (M a b) = (Z a || Z b)

theorem laws_of (Wd : List UInt8 → Fp) (O : UInt64 → Fp) (P D M : Fp → Fp → Fp) (N I : Fp → Fp) (E : Fp → Fp → Bool) (Z : Fp → Bool) (ht : ∀ k, TblOK Try.prog (tblLaws k Wd O P D M N I E Z)) (h : LawsIs O P D M N I E Z) :
    Computes A Try.prog 5 (fun _ : Bs × Bs × Bs × Unit => true) := by
  refine computes_of_runT0 Try.func5 (by kernel_rfl) (by kernel_rfl) 8 ?_
  rintro ⟨g1, g2, g3, _⟩ ⟨⟨x⟩, ⟨y⟩, ⟨z⟩, ⟨⟩⟩ W ⟨k1, k2, k3, _⟩
  have k1 : HasBytes W x g1 := k1
  have k2 : HasBytes W y g2 := k2
  have k3 : HasBytes W z g3 := k3
  by_cases hx : x.length ≤ 128
  · by_cases hy : y.length ≤ 128
    · by_cases hz : z.length ≤ 128
      · obtain ⟨a, ha⟩ : ∃ a, a = Wd (partB x 0 x.length) := ⟨_, rfl⟩
        obtain ⟨b, hb⟩ : ∃ b, b = Wd (partB y 0 y.length) := ⟨_, rfl⟩
        obtain ⟨c, hc⟩ : ∃ c, c = Wd (partB z 0 z.length) := ⟨_, rfl⟩
        have hm := h.h0 a b
        have rest : All [E (M a (O 1)) a = true, Z (P a (N a)) = true, E (P (D a b) b) a = true, E (M a (P b c)) (P (M a b) (M a c)) = true, E (M a (M b c)) (M (M a b) c) = true, E (P a (P b c)) (P (P a b) c) = true, E (M a b) (M b a) = true, E (P a b) (P b a) = true,
            (partB z 0 z.length).length < 1048576, ReadB W g3 z, AllU8 z, (partB y 0 y.length).length < 1048576, ReadB W g2 y, AllU8 y, (partB x 0 x.length).length < 1048576, ReadB W g1 x, AllU8 x,
            decide ((z.length : Int) > 128) = false, decide ((y.length : Int) > 128) = false, decide ((x.length : Int) > 128) = false, true = true] :=
          ⟨h.h8 a, h.h7 a, h.h6 a b, h.h5 a b c, h.h4 a b c, h.h3 a b c, h.h2 a b, h.h1 a b, shortB hz, readB k3, allU8 z, shortB hy, readB k2, allU8 y, shortB hx, readB k1, allU8 x, decide_eq_false (by omega), decide_eq_false (by omega), decide_eq_false (by omega), rfl, trivial⟩
        refine ⟨_, ht 0, ?_⟩
        cases hza : Z a with
        | true =>
          rw [hza] at hm
          refine ⟨saysY [], _, (Z a = true) :: (Z (M a b) = true) :: (Z a = true) :: _, ?_, All.cons hza (All.cons hm (All.cons hza rest)), rfl⟩
          subst ha hb hc
          kernel_rfl
        | false =>
          have hi := h.h9 a hza
          rw [hza] at hm
          cases hzb : Z b with
          | true =>
            rw [hzb] at hm
            refine ⟨saysY [(110, false), (126, false)], _, (Z b = true) :: (Z a = false) :: (Z (M a b) = true) :: (E (M a (I a)) (O 1) = true) :: (Z a = false) :: _, ?_, All.cons hzb (All.cons hza (All.cons hm (All.cons hi (All.cons hza rest)))), rfl⟩
            subst ha hb hc
            kernel_rfl
          | false =>
            rw [hzb] at hm
            refine ⟨saysY [(110, false), (124, false), (126, false), (129, false)], _, (Z b = false) :: (Z a = false) :: (Z (M a b) = false) :: (E (M a (I a)) (O 1) = true) :: (Z a = false) :: _, ?_, All.cons hzb (All.cons hza (All.cons hm (All.cons hi (All.cons hza rest)))), rfl⟩
            subst ha hb hc
            kernel_rfl
      · exact ⟨_, ht 3, saysY [], true, [decide ((z.length : Int) > 128) = true, decide ((y.length : Int) > 128) = false, decide ((x.length : Int) > 128) = false, true = true], by kernel_rfl, ⟨decide_eq_true (by omega), decide_eq_false (by omega), decide_eq_false (by omega), rfl, trivial⟩, rfl⟩
    · exact ⟨_, ht 2, saysY [], true, [decide ((y.length : Int) > 128) = true, decide ((x.length : Int) > 128) = false, true = true], by kernel_rfl, ⟨decide_eq_true (by omega), decide_eq_false (by omega), rfl, trivial⟩, rfl⟩
  · exact ⟨_, ht 1, saysY [], true, [decide ((x.length : Int) > 128) = true, true = true], by kernel_rfl, ⟨decide_eq_true (by omega), rfl, trivial⟩, rfl⟩

end Go.Proofs.Ytbdbmcdcjejffaa

/- FpLaws, out of the contracts. -/
namespace Go.Proofs.Ytbdbmcdcjejffaa
open Go Go.Sh

instance : NeZero pN := ⟨by decide⟩
theorem fp_add_comm (a b : Fp) : a + b = b + a := by grind
theorem fp_laws (a b c : Fp) : a + (b + c) = a + b + c ∧ a * (b * c) = a * b * c ∧ a * (b + c) = a * b + a * c ∧ a - b + b = a ∧ a + -a = 0 := by
  refine ⟨?_, ?_, ?_, ?_, ?_⟩ <;> grind

theorem tblLaws_ok (k : Nat) : TblOK Try.prog (tblLaws k wideF fpOf (fun a b => a + b) (fun a b => a - b) (fun a b => a * b) (fun a => -a) invF (fun a b => decide (a = b)) (fun a => decide (a = 0))) :=
  .cons known_ok.row (.cons (lightRow_ok k) (.cons wide_ok.row (.cons of_ok.row (.cons add_ok.row (.cons sub_ok.row (.cons mul_ok.row (.cons neg_ok.row (.cons inv_ok.row (.cons equal_ok.row (.cons isZero_ok.row (.nil _)))))))))))

theorem fpOf1 : fpOf 1 = 1 := by kernel_rfl
theorem laws_ok : Computes A Try.prog 5 (fun _ : Bs × Bs × Bs × Unit => true) := by
  refine laws_of _ _ _ _ _ _ _ _ _ tblLaws_ok ⟨?_, ?_, ?_, ?_, ?_, ?_, ?_, ?_, ?_, ?_⟩
  · intro a b; exact decide_eq_true (fp_add_comm a b)
  · intro a b; exact decide_eq_true (Fin.mul_comm a b)
  · intro a b c; exact decide_eq_true (fp_laws a b c).1
  · intro a b c; exact decide_eq_true (fp_laws a b c).2.1
  · intro a b c; exact decide_eq_true (fp_laws a b c).2.2.1
  · intro a b; exact decide_eq_true (fp_laws a b 0).2.2.2.1
  · intro a; exact decide_eq_true (fp_laws a 0 0).2.2.2.2
  · intro a
    show decide (a * fpOf 1 = a) = true
    rw [fpOf1]
    exact decide_eq_true (Fin.mul_one a)
  · intro a h
    show decide (a * invF a = fpOf 1) = true
    rw [fpOf1]
    exact decide_eq_true (mul_invF (of_decide_eq_false h))
  · intro a b
    show decide (a * b = 0) = (decide (a = 0) || decide (b = 0))
    by_cases h : a * b = 0
    · rw [decide_eq_true h]
      rcases mul_eq_zeroF h with e | e
      · rw [decide_eq_true e]; rfl
      · rw [decide_eq_true e, Bool.or_true]
    · have h1 : a ≠ 0 := fun e => h (by rw [e, Fin.zero_mul])
      have h2 : b ≠ 0 := fun e => h (by rw [e, Fin.mul_zero])
      rw [decide_eq_false h, decide_eq_false h1, decide_eq_false h2]; rfl

end Go.Proofs.Ytbdbmcdcjejffaa

/- Squares and their roots; the law of the roots of a square of two places. -/
namespace Go.Proofs.Ytbdbmcdcjejffaa
open Go Go.Sh

theorem quarter_n : PowK.n .quarter + PowK.n .quarter + (PowK.n .quarter + PowK.n .quarter) = pN - 1 + (1 + 1) := by
  show (pN + 1) / 4 + (pN + 1) / 4 + ((pN + 1) / 4 + (pN + 1) / 4) = pN - 1 + (1 + 1)
  rw [pN_val]
theorem fpow_p1 (x : Fp) : fpow x (pN - 1 + (1 + 1)) = x * x := by
  by_cases h : x = 0
  · subst h
    rw [Fin.mul_zero]
    exact zero_fpow (by omega)
  · rw [fpow_add, fermatF h, Fin.one_mul, fpow_add, fpow_one]
theorem root_sq (x : Fp) : rootR (x * x) * rootR (x * x) = x * x := by
  unfold rootR
  rw [mul_fpow, ← fpow_add, ← fpow_add, quarter_n, fpow_p1]
theorem sq_eq {a b : Fp} (h : a * a = b * b) : a = b ∨ a = -b := by
  have : (a - b) * (a + b) = 0 := by grind
  rcases mul_eq_zeroF this with e | e
  · left; grind
  · right; grind
theorem sqrt_sq (x : Fp) : (sqrtF (x * x)).b = true ∧ ((sqrtF (x * x)).a = x ∨ (sqrtF (x * x)).a = -x) := by
  have h := root_sq x
  have h2 := sq_eq h
  unfold sqrtF
  rw [if_pos h]
  split
  · refine ⟨rfl, ?_⟩
    show -rootR (x * x) = x ∨ -rootR (x * x) = -x
    rcases h2 with e | e <;> rw [e]
    · exact .inr rfl
    · left; grind
  · exact ⟨rfl, h2⟩

noncomputable def tblSolves (k : Nat) (Wd : List UInt8 → Fp) (O : UInt64 → Fp) (P D M : Fp → Fp → Fp) (Q I : Fp → Fp) (S : Fp → T2 Fp Bool) (E : Fp → Fp → Bool) : List (Row A) :=
  [rowOf A 25 (fun _ : Unit => true), lightRow k, rowOf A 35 (fun x : Bt × Unit => Wd x.1.l), rowOf A 38 (fun x : UInt64 × Unit => O x.1),
    rowOf A 41 (fun x : Fp × Fp × Unit => P x.1 x.2.1), rowOf A 43 (fun x : Fp × Fp × Unit => D x.1 x.2.1), rowOf A 45 (fun x : Fp × Fp × Unit => M x.1 x.2.1),
    rowOf A 47 (fun x : Fp × Unit => Q x.1), rowOf A 50 (fun x : Fp × Unit => I x.1), rowOf A 54 (fun x : Fp × Unit => S x.1),
    rowOf A 52 (fun x : Fp × Fp × Unit => E x.1 x.2.1)]

structure SolvesIs (O : UInt64 → Fp) (P D M : Fp → Fp → Fp) (Q I : Fp → Fp) (S : Fp → T2 Fp Bool) (E : Fp → Fp → Bool) : Prop where
  h1 : ∀ a b, (S (D (Q (P a b)) (M (M a b) (O 4)))).b = true
  h2 : ∀ a b, E (M (P (P a b) (S (D (Q (P a b)) (M (M a b) (O 4)))).a) (I (O 2))) a = true → E (M (D (P a b) (S (D (Q (P a b)) (M (M a b) (O 4)))).a) (I (O 2))) b = true
  h3 : ∀ a b, E (M (P (P a b) (S (D (Q (P a b)) (M (M a b) (O 4)))).a) (I (O 2))) a = false → E (M (P (P a b) (S (D (Q (P a b)) (M (M a b) (O 4)))).a) (I (O 2))) b = true ∧ E (M (D (P a b) (S (D (Q (P a b)) (M (M a b) (O 4)))).a) (I (O 2))) a = true

theorem solves_of (Wd : List UInt8 → Fp) (O : UInt64 → Fp) (P D M : Fp → Fp → Fp) (Q I : Fp → Fp) (S : Fp → T2 Fp Bool) (E : Fp → Fp → Bool) (ht : ∀ k, TblOK Try.prog (tblSolves k Wd O P D M Q I S E)) (h : SolvesIs O P D M Q I S E) :
    Computes A Try.prog 6 (fun _ : Bs × Bs × Unit => true) := by
  refine computes_of_runT0 Try.func6 (by kernel_rfl) (by kernel_rfl) 8 ?_
  rintro ⟨g1, g2, _⟩ ⟨⟨x⟩, ⟨y⟩, ⟨⟩⟩ W ⟨k1, k2, _⟩
  have k1 : HasBytes W x g1 := k1
  have k2 : HasBytes W y g2 := k2
  by_cases hx : x.length ≤ 128
  · by_cases hy : y.length ≤ 128
    · obtain ⟨a, ha⟩ : ∃ a, a = Wd (partB x 0 x.length) := ⟨_, rfl⟩
      obtain ⟨b, hb⟩ : ∃ b, b = Wd (partB y 0 y.length) := ⟨_, rfl⟩
      have rest : All [(S (D (Q (P a b)) (M (M a b) (O 4)))).b = true, (partB y 0 y.length).length < 1048576, ReadB W g2 y, AllU8 y, (partB x 0 x.length).length < 1048576, ReadB W g1 x, AllU8 x,
            decide ((y.length : Int) > 128) = false, decide ((x.length : Int) > 128) = false, true = true] :=
          ⟨h.h1 a b, shortB hy, readB k2, allU8 y, shortB hx, readB k1, allU8 x, decide_eq_false (by omega), decide_eq_false (by omega), rfl, trivial⟩
      refine ⟨_, ht 0, ?_⟩
      cases hu : E (M (P (P a b) (S (D (Q (P a b)) (M (M a b) (O 4)))).a) (I (O 2))) a with
      | true =>
        refine ⟨saysY [], _, (E (M (D (P a b) (S (D (Q (P a b)) (M (M a b) (O 4)))).a) (I (O 2))) b = true) :: (E (M (P (P a b) (S (D (Q (P a b)) (M (M a b) (O 4)))).a) (I (O 2))) a = true) :: _, ?_, All.cons (h.h2 a b hu) (All.cons hu rest), rfl⟩
        subst ha hb
        kernel_rfl
      | false =>
        refine ⟨saysY [(57, false)], _, (E (M (D (P a b) (S (D (Q (P a b)) (M (M a b) (O 4)))).a) (I (O 2))) a = true) :: (E (M (P (P a b) (S (D (Q (P a b)) (M (M a b) (O 4)))).a) (I (O 2))) b = true) :: (E (M (P (P a b) (S (D (Q (P a b)) (M (M a b) (O 4)))).a) (I (O 2))) a = false) :: _, ?_, All.cons (h.h3 a b hu).2 (All.cons (h.h3 a b hu).1 (All.cons hu rest)), rfl⟩
        subst ha hb
        kernel_rfl
    · exact ⟨_, ht 2, saysY [], true, [decide ((y.length : Int) > 128) = true, decide ((x.length : Int) > 128) = false, true = true], by kernel_rfl, ⟨decide_eq_true (by omega), decide_eq_false (by omega), rfl, trivial⟩, rfl⟩
  · exact ⟨_, ht 1, saysY [], true, [decide ((x.length : Int) > 128) = true, true = true], by kernel_rfl, ⟨decide_eq_true (by omega), rfl, trivial⟩, rfl⟩

theorem tblSolves_ok (k : Nat) : TblOK Try.prog (tblSolves k wideF fpOf (fun a b => a + b) (fun a b => a - b) (fun a b => a * b) (fun a => a * a) invF sqrtF (fun a b => decide (a = b))) :=
  .cons known_ok.row (.cons (lightRow_ok k) (.cons wide_ok.row (.cons of_ok.row (.cons add_ok.row (.cons sub_ok.row (.cons mul_ok.row (.cons sq_ok.row (.cons inv_ok.row (.cons sqrt_ok.row (.cons equal_ok.row (.nil _)))))))))))

theorem fpOf2 : fpOf 2 = 1 + 1 := by kernel_rfl
theorem fpOf4 : fpOf 4 = (1 + 1) * (1 + 1) := by kernel_rfl
theorem two_inv : (1 + 1) * invF (fpOf 2) = 1 := by
  have h : fpOf 2 ≠ 0 := by intro h; exact absurd (congrArg Fin.val h) (by decide)
  have := mul_invF h
  rwa [fpOf2] at this ⊢
theorem disc (a b : Fp) : (a + b) * (a + b) - a * b * fpOf 4 = (a - b) * (a - b) := by rw [fpOf4]; grind
theorem solve_of (s t d h x y : Fp) (hh : (1 + 1) * h = 1) (hs : s = x + y) (hd : d = x - y) : (s + d) * h = x ∧ (s - d) * h = y := by
  subst hs hd
  constructor <;> grind

theorem solves_ok : Computes A Try.prog 6 (fun _ : Bs × Bs × Unit => true) := by
  have key : ∀ a b : Fp, (sqrtF ((a + b) * (a + b) - a * b * fpOf 4)).b = true ∧ (((a + b + (sqrtF ((a + b) * (a + b) - a * b * fpOf 4)).a) * invF (fpOf 2) = a ∧ (a + b - (sqrtF ((a + b) * (a + b) - a * b * fpOf 4)).a) * invF (fpOf 2) = b) ∨
      ((a + b + (sqrtF ((a + b) * (a + b) - a * b * fpOf 4)).a) * invF (fpOf 2) = b ∧ (a + b - (sqrtF ((a + b) * (a + b) - a * b * fpOf 4)).a) * invF (fpOf 2) = a)) := by
    intro a b
    rw [disc]
    obtain ⟨h1, h2⟩ := sqrt_sq (a - b)
    refine ⟨h1, ?_⟩
    rcases h2 with e | e
    · left; exact solve_of _ 0 _ _ a b two_inv rfl e
    · right; exact solve_of _ 0 _ _ b a two_inv (fp_add_comm a b) (by rw [e]; grind)
  refine solves_of _ _ _ _ _ _ _ _ _ tblSolves_ok ⟨fun a b => (key a b).1, fun a b h => ?_, fun a b h => ?_⟩
  · have h := of_decide_eq_true h
    refine decide_eq_true ?_
    rcases (key a b).2 with e | e
    · exact e.2
    · have : a = b := h.symm.trans e.1
      exact e.2.trans this
  · have h := of_decide_eq_false h
    rcases (key a b).2 with e | e
    · exact absurd e.1 h
    · exact ⟨decide_eq_true e.1, decide_eq_true e.2⟩

end Go.Proofs.Ytbdbmcdcjejffaa

/- The reference's numbers of bytes. -/
namespace Go.Proofs.Ytbdbmcdcjejffaa
open Go Go.Sh

/-- a or byte x, shifted by s, as the reference takes it. -/
def orRef (a : UInt64) (x : UInt8) (s : Int) : UInt64 :=
  UInt64.ofNat (((BitVec.ofInt IntKind.u64.bits (a.toNat : Int) ||| BitVec.ofInt IntKind.u64.bits ((UInt64.ofNat (((UInt64.ofNat ((x.toNat : Int) % 18446744073709551616).toNat).toNat : Int) * 2 ^ min s.toNat IntKind.u64.bits % 18446744073709551616).toNat).toNat : Int)).toNat : Int) % 18446744073709551616).toNat
theorem orRef_eq (a : UInt64) (x : UInt8) {s : Int} (h0 : 0 ≤ s) (h1 : s < 64) : orRef a x s = orRaw a x s := by
  have e : ((UInt64.ofNat (s % 18446744073709551616).toNat).toNat : Int).toNat = s.toNat := by
    rw [Int.toNat_natCast, UInt64.toNat_ofNat_of_lt' (by show (s % 18446744073709551616).toNat < 18446744073709551616; omega)]
    omega
  unfold orRef orRaw
  rw [e]

/-- The loop of the reference's From, at its head: k bytes have been. -/
def rfromSt (g : Spot) (l : List UInt8) (f : Nat → UInt64) (k : Nat) : St A :=
  ⟨slots 0 38 [(0, .val false [.e g.a (byteAt l) 0 l.length g.c]), (2, .val false [.p 0 0]), (3, .val false [.v (.bool false)]), (4, .val false [.p 1 0]), (5, .val false [.n .i64 k])],
   [some ⟨lit6, 31, false⟩, some ⟨[.a (.w64 6 f)], 31, false⟩], 0, [], []⟩

theorem rfrom_loop (W : World) (g : Spot) (l : List UInt8) (hg : HasBytes W l g) (hl : l.length ≤ 48) : SoundFor Try.prog W.cell? [] (.loop (loopNo Try.f28 5)) (rfromSt g l zero64 0) (.exit 0) (rfromSt g l (fromF l l.length) l.length) := by
  intro c e1 e2 e3 e4
  refine loopAt (inv := fun k => rfromSt g l (fromF l k) k) (N := l.length) (by simp) (fun k hk => ?_) ?_
  · have hz : (l.length : Int) - 1 - k = ((l.length - 1 - k : Nat) : Int) := by omega
    have h1 : ((l.length : Int) - 1 - k).tdiv 8 = ((l.length - 1 - k) / 8 : Nat) := by rw [hz]; rfl
    have h2 : ((l.length : Int) - 1 - k).tmod 8 = ((l.length - 1 - k) % 8 : Nat) := by rw [hz]; rfl
    have h3 : fromF l (k + 1) = upd (fromF l k) (((l.length : Int) - 1 - k).tdiv 8).toNat (orRef (fromF l k (((l.length : Int) - 1 - k).tdiv 8).toNat) (l.getD k 0) (8 * ((l.length : Int) - 1 - k).tmod 8)) := by
      rw [orRef_eq _ _ (by rw [h2]; omega) (by rw [h2]; omega)]
      rfl
    rw [h3]
    refine Round.of0 (TblOK.nil _) (says [(14, true)]) 4
      [WrapI ((k : Int) + 1), Idx (((l.length : Int) - 1 - k).tdiv 8) 6, (0 : Int) ≤ 8 * ((l.length : Int) - 1 - k).tmod 8, WrapI (8 * ((l.length : Int) - 1 - k).tmod 8),
        Reads W.cell? g.a (byteAt (B := FB) l) k 1, Idx k l.length, Idx (((l.length : Int) - 1 - k).tdiv 8) 6, WrapI (((l.length : Int) - 1 - k).tdiv 8), WrapI ((l.length : Int) - 1 - k), WrapI ((l.length : Int) - 1), decide ((k : Int) < l.length) = true]
      (by kernel_rfl) ?_ (by kernel_rfl) (by kernel_rfl) e1 e2 e3 e4
    refine ⟨wrapI (by omega) (by omega), ⟨by rw [h1]; omega, by rw [h1]; omega⟩, by rw [h2]; omega, wrapI (by rw [h2]; omega) (by rw [h2]; omega), reads_bytes hg (by omega), ⟨by omega, by omega⟩, ⟨by rw [h1]; omega, by rw [h1]; omega⟩, wrapI (by rw [h1]; omega) (by rw [h1]; omega),
      wrapI (by omega) (by omega), wrapI (by omega) (by omega), decide_eq_true (by omega), trivial⟩
  · exact Round.of0 (TblOK.nil _) (says [(14, false)]) 4 [decide ((l.length : Int) < l.length) = false] (by kernel_rfl) ⟨decide_eq_false (by omega), trivial⟩ (by kernel_rfl) (by kernel_rfl) e1 e2 e3 e4

theorem rfromRaw_ok : Computes A Try.prog 28 (fun x : Bs × Unit => if x.1.l.length ≤ 48 then T2.mk (numO (fromF x.1.l x.1.l.length 0, fromF x.1.l x.1.l.length 1, fromF x.1.l x.1.l.length 2, fromF x.1.l x.1.l.length 3, fromF x.1.l x.1.l.length 4, fromF x.1.l x.1.l.length 5)) true else T2.mk (0 : Num) false) := by
  refine computes_of_runW (TblOK.nil _) (ITblOK.nil _) Try.func28 (by kernel_rfl) (by kernel_rfl) 4 ?_
  rintro ⟨g, _⟩ ⟨⟨l⟩, ⟨⟩⟩ W ⟨hg, _⟩
  by_cases hl : l.length ≤ 48
  · obtain ⟨F, hF⟩ : ∃ F, F = fromF l l.length := ⟨_, rfl⟩
    have hs := rfrom_loop W g l hg hl
    rw [← hF] at hs
    refine ⟨says [(9, false)], lps [(5, rfromSt g l zero64 0, .exit 0, rfromSt g l F l.length)], _, _, (by kernel_rfl : _ = some (some (T2.mk (numO (F 0, F 1, F 2, F 3, F 4, F 5)) true), [ToldIs (rfromSt g l zero64 0), decide ((l.length : Int) > 48) = false])),
      ⟨toldIs _, decide_eq_false (by omega), trivial⟩, ?_, ?_⟩
    · simp only [hl, if_true, hF]
    · intro body hb
      refine LoopsFor.cons ?_ hs LoopsFor.nil
      obtain rfl := Option.some.inj hb
      kernel_rfl
  · refine ⟨says [(9, true)], noLoop, _, _, (by kernel_rfl : _ = some (some (T2.mk (0 : Num) false), [decide ((l.length : Int) > 48) = true])), ⟨decide_eq_true (by omega), trivial⟩, ?_, fun body _ => loopsFor_none⟩
    simp only [hl, if_false]

theorem refFrom_ok : Computes A Try.prog 28 (fun x : Bs × Unit => fromB x.1.l) := by
  refine Computes.eq rfromRaw_ok (fun x => ?_)
  obtain ⟨⟨l⟩, ⟨⟩⟩ := x
  simp only [fromB, numOfB]
  by_cases h : l.length ≤ 48
  · simp only [h, if_true, dif_pos, decide_true]
    congr 1
    apply Fin.ext
    show valF (fromF l l.length) = numB l
    rw [fromF_val h l.length (Nat.le_refl _)]
    simp
  · simp only [h, if_false, dif_neg, not_false_eq_true, decide_false]

/-! ### The number of the bytes of a number -/
theorem numB_range (k : Nat) : ∀ n, numB ((List.range k).map fun i => UInt8.ofNat (n / 256 ^ (k - 1 - i) % 256)) = n % 256 ^ k := by
  induction k with
  | zero => intro n; simp [numB]; omega
  | succ k ih =>
    intro n
    rw [List.range_succ, List.map_append]
    show numB (_ ++ [_]) = _
    rw [numB_snoc]
    have e : (List.range k).map (fun i => UInt8.ofNat (n / 256 ^ (k + 1 - 1 - i) % 256)) = (List.range k).map fun i => UInt8.ofNat ((n / 256) / 256 ^ (k - 1 - i) % 256) := by
      apply List.map_congr_left
      intro i hi
      have hi : i < k := List.mem_range.1 hi
      rw [Nat.div_div_eq_div_mul, ← Nat.pow_add_one']
      congr 4
      omega
    rw [e, ih]
    show 256 * (n / 256 % 256 ^ k) + (UInt8.ofNat (n / 256 ^ (k + 1 - 1 - k) % 256)).toNat = _
    have hb : ∀ z : Nat, (UInt8.ofNat (z % 256)).toNat = z % 256 := fun z => by
      rw [UInt8.toNat_ofNat']
      omega
    rw [show k + 1 - 1 - k = 0 by omega, Nat.pow_zero, Nat.div_one, hb, Nat.pow_succ, Nat.mul_comm (256 ^ k) 256, Nat.mod_mul]
    omega
theorem numB_bytesN {n : Nat} (h : n < 256 ^ 48) : numB ((List.range 48).map (byteN n)) = n := by
  have := numB_range 48 n
  rw [Nat.mod_eq_of_lt h] at this
  exact this
theorem fp_lt (a : Fp) : a.val < 256 ^ 48 := Nat.lt_trans a.isLt (by rw [pN_val]; decide)

end Go.Proofs.Ytbdbmcdcjejffaa

/- The document's element; what is the same. -/
namespace Go.Proofs.Ytbdbmcdcjejffaa
open Go Go.Sh

def tblRef : List (Row A) := [rowOf A 32 (fun x : Fp × Unit => bytesN x.1.val), rowOf A 28 (fun x : Bs × Unit => fromB x.1.l), rowOf A 36 (fun x : Pl × Unit => x.1.x)]
theorem tblRef_ok : TblOK Try.prog tblRef := .cons bytes_ok.row (.cons refFrom_ok.row (.cons refOf_ok.row (.nil _)))

theorem from_bytes (a : Fp) : (fromB (listB (byteN a.val))).a.val = a.val := by
  show (numOfB (listB (byteN a.val))).val = a.val
  unfold numOfB
  rw [dif_pos (by show ((List.range 48).map _).length ≤ 48; simp)]
  exact numB_bytesN (fp_lt a)

theorem ref_ok : Computes A Try.prog 40 (fun x : Fp × Unit => x.1) := by
  refine Computes.eq (f := fun x : Fp × Unit => (plOf (fromB (listB (byteN x.1.val))).a).x) ?_ (fun x => Fin.ext ?_)
  · refine computes_of_run tblRef_ok Try.func40 (by kernel_rfl) (by kernel_rfl) 8 ?_
    rintro _ ⟨a, ⟨⟩⟩ W -
    exact ⟨fun _ _ => .keep, _, [(fromB (listB (byteN a.val))).a.val < pN], (by kernel_rfl : _ = some (some (plOf (fromB (listB (byteN a.val))).a).x, _)), ⟨by rw [from_bytes]; exact a.isLt, trivial⟩, rfl⟩
  · show (fromB (listB (byteN x.1.val))).a.val % pN = x.1.val
    rw [from_bytes, Nat.mod_eq_of_lt x.1.isLt]

/-- Are the bytes from i on, n of them, the same? -/
def eqB (f g : Nat → UInt8) : Nat → Nat → Bool
  | 0, _ => true
  | n + 1, i => ((f i).toNat : Int) == (g i).toNat && eqB f g n (i + 1)
theorem eqB_true {f g : Nat → UInt8} : ∀ {n i : Nat}, eqB f g n i = true → ∀ j, j < n → f (i + j) = g (i + j)
  | n + 1, i, h, j, hj => by
    simp only [eqB, Bool.and_eq_true] at h
    cases j with
    | zero =>
      have h1 : ((f i).toNat : Int) = (g i).toNat := eq_of_beq h.1
      rw [Nat.add_zero]
      exact UInt8.toNat_inj.1 (Int.ofNat.inj h1)
    | succ j =>
      have := eqB_true h.2 j (by omega)
      rwa [show i + 1 + j = i + (j + 1) by omega] at this
theorem eqB_self (f : Nat → UInt8) : ∀ n i : Nat, eqB f f n i = true
  | 0, _ => rfl
  | n + 1, i => by simp only [eqB, Bool.and_eq_true]; exact ⟨by simp, eqB_self f n (i + 1)⟩
theorem eqB_bytes (a b : Fp) : eqB (byteN a.val) (byteN b.val) 48 0 = decide (a = b) := by
  by_cases h : a = b
  · subst h; rw [eqB_self, decide_eq_true rfl]
  · rw [decide_eq_false h]
    cases e : eqB (byteN a.val) (byteN b.val) 48 0 with
    | false => rfl
    | true =>
      have h1 := eqB_true e
      have : (List.range 48).map (byteN a.val) = (List.range 48).map (byteN b.val) := by
        apply List.map_congr_left
        intro i hi
        have := h1 i (List.mem_range.1 hi)
        simpa using this
      have h2 := congrArg numB this
      rw [numB_bytesN (fp_lt a), numB_bytesN (fp_lt b)] at h2
      exact absurd (Fin.ext h2) h

def tblSame : List (Row A) := [rowOf A 32 (fun x : Fp × Unit => bytesN x.1.val), rowOf A 136 (fun x : Num × Unit => bytesN x.1.val), rowOf A 151 (fun x : Fp × Unit => fpNum x.1)]
theorem tblSame_ok : TblOK Try.prog tblSame := .cons bytes_ok.row (.cons refBytes_ok.row (.cons refNumber_ok.row (.nil _)))
theorem same_ok : Computes A Try.prog 34 (fun x : Fp × Fp × Unit => decide (x.1 = x.2.1)) :=
  Computes.eq (f := fun x : Fp × Fp × Unit => eqB (byteN x.1.val) (byteN x.2.1.val) 48 0) (computes_of_run0 tblSame_ok Try.func34 (by kernel_rfl) (by kernel_rfl) 8 (fun _ _ _ => by kernel_rfl)) (fun x => eqB_bytes x.1 x.2.1)

end Go.Proofs.Ytbdbmcdcjejffaa
