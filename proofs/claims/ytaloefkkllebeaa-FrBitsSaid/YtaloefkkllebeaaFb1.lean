/- The scalar field: the laws. -/
import Derived.Test.YtaloefkkllebeaaFa9
import Derived.Test.YtaloefkkllebeaaRb1
import Derived.Test.YtaloefkkllebeaaLk6
set_option linter.unusedVariables false
set_option linter.unusedSimpArgs false
set_option linter.unusedSectionVars false
namespace Go.Proofs.Ytaloefkkllebeaa
open Go Go.Sh
noncomputable def light4Row (k : Nat) : Row A := rowIn Try.prog [] [] (lightO k) 8 33 Try.f33
theorem light4Row_ok (k : Nat) : RowOK Try.prog (light4Row k) := rowIn_ok (TblOK.nil _) (ITblOK.nil _) (lightO k) 8 Try.func33 (by kernel_rfl) (by kernel_rfl)
section
variable (Wd : List UInt8 → Fq) (O : UInt64 → Fq) (P D M : Fq → Fq → Fq) (N I : Fq → Fq) (E : Fq → Fq → Bool) (Z : Fq → Bool)
noncomputable def tblF (k : Nat) : List (Row A) :=
  [rowOf A 32 (fun _ : Unit => true), light4Row k, rowOf A 40 (fun x : Bt × Unit => Wd x.1.l), rowOf A 42 (fun x : UInt64 × Unit => O x.1),
    rowOf A 46 (fun x : Fq × Fq × Unit => P x.1 x.2.1), rowOf A 47 (fun x : Fq × Fq × Unit => D x.1 x.2.1), rowOf A 48 (fun x : Fq × Fq × Unit => M x.1 x.2.1),
    rowOf A 51 (fun x : Fq × Unit => N x.1), rowOf A 50 (fun x : Fq × Unit => I x.1),
    rowOf A 49 (fun x : Fq × Fq × Unit => E x.1 x.2.1), rowOf A 37 (fun x : Fq × Unit => Z x.1)]
structure FrLawsIs : Prop where
  h1 : ∀ a b, E (P a b) (P b a) = true
  h2 : ∀ a b, E (M a b) (M b a) = true
  h3 : ∀ a b c, E (P a (P b c)) (P (P a b) c) = true
  h4 : ∀ a b c, E (M a (M b c)) (M (M a b) c) = true
  h5 : ∀ a b c, E (M a (P b c)) (P (M a b) (M a c)) = true
  h6 : ∀ a b, E (P (D a b) b) a = true
  h8 : ∀ a, E (M a (O 1)) a = true
  h0 : ∀ a b, Z (M a b) = (Z a || Z b)
theorem frLaws_of (ht : ∀ k, TblOK Try.prog (tblF Wd O P D M N I E Z k)) (h : FrLawsIs O P D M E Z) :
    Computes A Try.prog 12 (fun _ : Bs × Bs × Bs × Unit => true) := by
  refine computes_of_runT0 Try.func12 (by kernel_rfl) (by kernel_rfl) 8 ?_
  rintro ⟨g1, g2, g3, _⟩ ⟨⟨x⟩, ⟨y⟩, ⟨z⟩, ⟨⟩⟩ W ⟨k1, k2, k3, _⟩
  have k1 : HasBytes W x g1 := k1
  have k2 : HasBytes W y g2 := k2
  have k3 : HasBytes W z g3 := k3
  by_cases hx : x.length ≤ 128
  · by_cases hy : y.length ≤ 128
    · by_cases hz : z.length ≤ 128
      · obtain ⟨a, ha⟩ : ∃ a, a = Wd (partB x 0 x.length) := ⟨_, rfl⟩
        obtain ⟨b, hb⟩ : ∃ b, b = Wd (partB y 0 y.length) := ⟨_, rfl⟩
        obtain ⟨c, hc⟩ : ∃ c, c = Wd (partB z 0 z.length) := ⟨_, rfl⟩
        have hm := h.h0 a b
        have rest : All [E (M a (O 1)) a = true, E (P (D a b) b) a = true, E (M a (P b c)) (P (M a b) (M a c)) = true, E (M a (M b c)) (M (M a b) c) = true, E (P a (P b c)) (P (P a b) c) = true, E (M a b) (M b a) = true, E (P a b) (P b a) = true,
            (partB z 0 z.length).length < 1048576, ReadB W g3 z, AllU8 z, (partB y 0 y.length).length < 1048576, ReadB W g2 y, AllU8 y, (partB x 0 x.length).length < 1048576, ReadB W g1 x, AllU8 x,
            decide ((z.length : Int) > 128) = false, decide ((y.length : Int) > 128) = false, decide ((x.length : Int) > 128) = false, true = true] :=
          ⟨h.h8 a, h.h6 a b, h.h5 a b c, h.h4 a b c, h.h3 a b c, h.h2 a b, h.h1 a b, shortB hz, readB k3, allU8 z, shortB hy, readB k2, allU8 y, shortB hx, readB k1, allU8 x, decide_eq_false (by omega), decide_eq_false (by omega), decide_eq_false (by omega), rfl, trivial⟩
        refine ⟨_, ht 0, ?_⟩
        cases hza : Z a with
        | true =>
          rw [hza] at hm
          refine ⟨saysY [], _, (Z a = true) :: (Z (M a b) = true) :: _, ?_, All.cons hza (All.cons hm rest), rfl⟩
          subst ha hb hc
          kernel_rfl
        | false =>
          rw [hza] at hm
          cases hzb : Z b with
          | true =>
            rw [hzb] at hm
            refine ⟨saysY [(103, false)], _, (Z b = true) :: (Z a = false) :: (Z (M a b) = true) :: _, ?_, All.cons hzb (All.cons hza (All.cons hm rest)), rfl⟩
            subst ha hb hc
            kernel_rfl
          | false =>
            rw [hzb] at hm
            refine ⟨saysY [(101, false), (103, false), (106, false)], _, (Z b = false) :: (Z a = false) :: (Z (M a b) = false) :: _, ?_, All.cons hzb (All.cons hza (All.cons hm rest)), rfl⟩
            subst ha hb hc
            kernel_rfl
      · exact ⟨_, ht 3, saysY [], true, [decide ((z.length : Int) > 128) = true, decide ((y.length : Int) > 128) = false, decide ((x.length : Int) > 128) = false, true = true], by kernel_rfl, ⟨decide_eq_true (by omega), decide_eq_false (by omega), decide_eq_false (by omega), rfl, trivial⟩, rfl⟩
    · exact ⟨_, ht 2, saysY [], true, [decide ((y.length : Int) > 128) = true, decide ((x.length : Int) > 128) = false, true = true], by kernel_rfl, ⟨decide_eq_true (by omega), decide_eq_false (by omega), rfl, trivial⟩, rfl⟩
  · exact ⟨_, ht 1, saysY [], true, [decide ((x.length : Int) > 128) = true, true = true], by kernel_rfl, ⟨decide_eq_true (by omega), rfl, trivial⟩, rfl⟩
end
theorem fqOf1 : fqOf 1 = 1 := by kernel_rfl
theorem fq_mul0 {a b : Fq} (h : a * b = 0) : a = 0 ∨ b = 0 := by
  by_cases ha : a = 0
  · exact .inl ha
  · right
    have h1 := mul_invQ ha
    have h2 : b = a * b * invQ a := by
      have : a * b * invQ a = (a * invQ a) * b := by grind
      rw [this, h1, Fin.one_mul]
    rw [h2, h, Fin.zero_mul]
theorem fqZ (a b : Fq) : decide (a * b = 0) = (decide (a = 0) || decide (b = 0)) := by
  by_cases ha : a = 0
  · subst ha; rw [Fin.zero_mul]; simp
  · by_cases hb : b = 0
    · subst hb; rw [Fin.mul_zero]; simp
    · rw [decide_eq_false ha, decide_eq_false hb, decide_eq_false (fun h => (fq_mul0 h).elim ha hb)]; rfl
theorem fq_laws (a b c : Fq) : a + b = b + a ∧ a + (b + c) = a + b + c ∧ a * (b * c) = a * b * c ∧ a * (b + c) = a * b + a * c ∧ a - b + b = a ∧ -a + a = 0 := by
  refine ⟨?_, ?_, ?_, ?_, ?_, ?_⟩ <;> grind
theorem tblF_ok (k : Nat) : TblOK Try.prog (tblF wideQ fqOf (fun a b => a + b) (fun a b => a - b) (fun a b => a * b) (fun a => -a) invQ (fun a b => decide (a = b)) (fun a => decide (a = 0)) k) :=
  .cons known4_ok.row (.cons (light4Row_ok k) (.cons frWide_ok.row (.cons frOf_ok.row (.cons frAdd_ok.row (.cons frSub_ok.row (.cons frMul_ok.row (.cons frNeg_ok.row (.cons frInv_ok.row (.cons frEqual_ok.row (.cons frIsZero_ok.row (.nil _)))))))))))
theorem frLaws_ok : Computes A Try.prog 12 (fun _ : Bs × Bs × Bs × Unit => true) := by
  refine frLaws_of _ _ _ _ _ _ _ _ _ tblF_ok ⟨?_, ?_, ?_, ?_, ?_, ?_, ?_, fqZ⟩
  · intro a b; exact decide_eq_true (fq_laws a b a).1
  · intro a b; exact decide_eq_true (Fin.mul_comm a b)
  · intro a b c; exact decide_eq_true (fq_laws a b c).2.1
  · intro a b c; exact decide_eq_true (fq_laws a b c).2.2.1
  · intro a b c; exact decide_eq_true (fq_laws a b c).2.2.2.1
  · intro a b; exact decide_eq_true (fq_laws a b a).2.2.2.2.1
  · intro a
    show decide (a * fqOf 1 = a) = true
    rw [fqOf1, Fin.mul_one]; exact decide_eq_true rfl
end Go.Proofs.Ytaloefkkllebeaa
