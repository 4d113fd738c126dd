/- The scalar field: sums, differences, products are those modulo r. -/
import Derived.Test.YtaloefkkllebeaaFb1
set_option linter.unusedVariables false
set_option linter.unusedSimpArgs false
set_option linter.unusedSectionVars false
namespace Go.Proofs.Ytaloefkkllebeaa
open Go Go.Sh
/-- A number's words, and as many noughts behind them. -/
def pad12 (n : Num) : R64 12 := ⟨pickN 0 [(numL n).1, (numL n).2.1, (numL n).2.2.1, (numL n).2.2.2.1, (numL n).2.2.2.2.1, (numL n).2.2.2.2.2, UInt64.ofNat 0, UInt64.ofNat 0, UInt64.ofNat 0, UInt64.ofNat 0, UInt64.ofNat 0, UInt64.ofNat 0]⟩
theorem v12_pad12 (n : Num) : v12 (pad12 n) = n.val := by
  unfold pad12
  rw [v12_of _ rfl]
  have h := val6_numL n
  rw [← h]
  simp only [valW, val6]
  simp
section
variable (Wd : List UInt8 → Fq) (O : UInt64 → Fq) (P D M : Fq → Fq → Fq) (N I : Fq → Fq) (E : Fq → Fq → Bool) (Z : Fq → Bool)
  (Nu : Fq → Num) (Sm : Fq → Num → Bool) (rr : Num) (rP rD : Num → Num → Num) (rC rB : Num → Num → Bool) (rT : Num → Num → R64 12) (rM : R64 12 → Num → Num)
noncomputable def tblRk (k : Nat) : List (Row A) :=
  tblF Wd O P D M N I E Z k ++ [rowOf A 43 (fun x : Fq × Unit => Nu x.1), rowOf A 39 (fun x : Fq × Num × Unit => Sm x.1 x.2.1),
    rowOf A 36 (fun _ : Unit => rr), rowOf A 16 (fun x : Num × Num × Unit => T2.mk (rP x.1 x.2.1) (Cy.mk (rC x.1 x.2.1))),
    rowOf A 17 (fun x : Num × Num × Unit => T2.mk (rD x.1 x.2.1) (Cy.mk (rB x.1 x.2.1))), rowOf A 20 (fun x : Num × Num × Unit => rT x.1 x.2.1),
    rowOf A 22 (fun x : R64 12 × Num × Unit => rM x.1 x.2.1)]
def fq0 : Fq := ofMont4 (number4 (UInt64.ofNat 0).toNat (UInt64.ofNat 0).toNat (UInt64.ofNat 0).toNat (UInt64.ofNat 0).toNat)
structure FrReckIs : Prop where
  h1 : ∀ a b, Sm (P a b) (rM (pad12 (rP (Nu a) (Nu b))) rr) = true
  h2 : ∀ a b, Sm (D a b) (rM (pad12 (rP (Nu a) (rD rr (Nu b)))) rr) = true
  h3 : ∀ a b, Sm (M a b) (rM (rT (Nu a) (Nu b)) rr) = true
  h4 : ∀ a b, E a b = eqN (Nu a) (Nu b)
  h5 : Z fq0 = true
  h6 : Z (I fq0) = true
  h7 : ∀ a, Z (P (N a) a) = true
  h8 : ∀ a, Z a = false → E (M a (I a)) (O 1) = true
theorem frReckons_of (ht : ∀ k, TblOK Try.prog (tblRk Wd O P D M N I E Z Nu Sm rr rP rD rC rB rT rM k)) (h : FrReckIs O P D M N I E Z Nu Sm rr rP rD rT rM) :
    Computes A Try.prog 11 (fun _ : Bs × Bs × Unit => true) := by
  refine computes_of_runT0 Try.func11 (by kernel_rfl) (by kernel_rfl) 8 ?_
  rintro ⟨g1, g2, _⟩ ⟨⟨x⟩, ⟨y⟩, ⟨⟩⟩ W ⟨k1, k2, _⟩
  have k1 : HasBytes W x g1 := k1
  have k2 : HasBytes W y g2 := k2
  by_cases hx : x.length ≤ 128
  · by_cases hy : y.length ≤ 128
    · obtain ⟨a, ha⟩ : ∃ a, a = Wd (partB x 0 x.length) := ⟨_, rfl⟩
      obtain ⟨b, hb⟩ : ∃ b, b = Wd (partB y 0 y.length) := ⟨_, rfl⟩
      have h4 := h.h4 a b
      have rest : All [Sm (M a b) (rM (rT (Nu a) (Nu b)) rr) = true, Sm (D a b) (rM (pad12 (rP (Nu a) (rD rr (Nu b)))) rr) = true, Sm (P a b) (rM (pad12 (rP (Nu a) (Nu b))) rr) = true,
          (partB y 0 y.length).length < 1048576, ReadB W g2 y, AllU8 y, (partB x 0 x.length).length < 1048576, ReadB W g1 x, AllU8 x,
          decide ((y.length : Int) > 128) = false, decide ((x.length : Int) > 128) = false, true = true] :=
        ⟨h.h3 a b, h.h2 a b, h.h1 a b, shortB hy, readB k2, allU8 y, shortB hx, readB k1, allU8 x, decide_eq_false (by omega), decide_eq_false (by omega), rfl, trivial⟩
      refine ⟨_, ht 0, ?_⟩
      cases he : E a b with
      | true =>
        rw [he] at h4
        cases hz : Z a with
        | true =>
          refine ⟨saysY [], _, (Z a = true) :: (Z (P (N a) a) = true) :: (Z (I fq0) = true) :: (Z fq0 = true) :: (eqN (Nu a) (Nu b) = true) :: (E a b = true) :: _, ?_, All.cons hz (All.cons (h.h7 a) (All.cons h.h6 (All.cons h.h5 (All.cons h4.symm (All.cons he rest))))), rfl⟩
          subst ha hb
          kernel_rfl
        | false =>
          refine ⟨saysY [(116, false)], _, (E (M a (I a)) (O 1) = true) :: (Z a = false) :: (Z (P (N a) a) = true) :: (Z (I fq0) = true) :: (Z fq0 = true) :: (eqN (Nu a) (Nu b) = true) :: (E a b = true) :: _, ?_, All.cons (h.h8 a hz) (All.cons hz (All.cons (h.h7 a) (All.cons h.h6 (All.cons h.h5 (All.cons h4.symm (All.cons he rest)))))), rfl⟩
          subst ha hb
          kernel_rfl
      | false =>
        rw [he] at h4
        cases hz : Z a with
        | true =>
          refine ⟨saysY [(92, false), (95, false)], _, (Z a = true) :: (Z (P (N a) a) = true) :: (Z (I fq0) = true) :: (Z fq0 = true) :: (eqN (Nu a) (Nu b) = false) :: (E a b = false) :: _, ?_, All.cons hz (All.cons (h.h7 a) (All.cons h.h6 (All.cons h.h5 (All.cons h4.symm (All.cons he rest))))), rfl⟩
          subst ha hb
          kernel_rfl
        | false =>
          refine ⟨saysY [(92, false), (95, false), (116, false)], _, (E (M a (I a)) (O 1) = true) :: (Z a = false) :: (Z (P (N a) a) = true) :: (Z (I fq0) = true) :: (Z fq0 = true) :: (eqN (Nu a) (Nu b) = false) :: (E a b = false) :: _, ?_, All.cons (h.h8 a hz) (All.cons hz (All.cons (h.h7 a) (All.cons h.h6 (All.cons h.h5 (All.cons h4.symm (All.cons he rest)))))), rfl⟩
          subst ha hb
          kernel_rfl
    · exact ⟨_, ht 2, saysY [], true, [decide ((y.length : Int) > 128) = true, decide ((x.length : Int) > 128) = false, true = true], by kernel_rfl, ⟨decide_eq_true (by omega), decide_eq_false (by omega), rfl, trivial⟩, rfl⟩
  · exact ⟨_, ht 1, saysY [], true, [decide ((x.length : Int) > 128) = true, true = true], by kernel_rfl, ⟨decide_eq_true (by omega), rfl, trivial⟩, rfl⟩
end
theorem fq0_eq : fq0 = 0 := by kernel_rfl
theorem fqNum_fqN (n : Nat) (m : Num) (h : m.val = n % rN) : fqNum (fqN n) = m := Fin.ext h.symm
theorem rNum_ne : rNum.val ≠ 0 := by show rN ≠ 0; rw [rN_val]; decide
theorem rNum_val : rNum.val = rN := rfl
theorem rN2_lt : 2 * rN < 39402006196394479212279040100143613805079739270465446667948293404245721771497210611414266254884915640806627990306816 := by rw [rN_val]; decide
theorem fqN_val (a : Fq) : fqN a.val = a := Fin.ext (Nat.mod_eq_of_lt a.isLt)
theorem frReckons_ok : Computes A Try.prog 11 (fun _ : Bs × Bs × Unit => true) := by
  refine frReckons_of wideQ fqOf (fun a b => a + b) (fun a b => a - b) (fun a b => a * b) (fun a => -a) invQ (fun a b => decide (a = b)) (fun a => decide (a = 0)) fqNum (fun a n => decide (fqNum a = n)) rNum
    (fun a b => a + b) (fun a b => a - b) (fun a b => decide (39402006196394479212279040100143613805079739270465446667948293404245721771497210611414266254884915640806627990306816 ≤ a.val + b.val)) (fun a b => decide (a < b)) (fun a b => n12 (a.val * b.val)) modN ?_ ⟨?_, ?_, ?_, ?_, ?_, ?_, ?_, ?_⟩
  · intro k
    exact (tblF_ok k).append (.cons lawNumber_ok.row (.cons lawSame_ok.row (.cons refR_ok.row (.cons refAdd_ok.row (.cons refSub_ok.row (.cons refTimes_ok.row (.cons refMod_ok.row (.nil _))))))))
  · intro a b
    refine decide_eq_true ?_
    have ha := a.isLt
    have hb := b.isLt
    have h2 := rN2_lt
    have e : a + b = fqN (a.val + b.val) := by rw [fqN_add, fqN_val, fqN_val]
    rw [e]
    refine fqNum_fqN _ _ ?_
    rw [modN_val _ _ rNum_ne, v12_pad12, rNum_val, Fin.val_add]
    have key : (a.val + b.val) % 39402006196394479212279040100143613805079739270465446667948293404245721771497210611414266254884915640806627990306816 = a.val + b.val := Nat.mod_eq_of_lt (by omega)
    show (a.val + b.val) % 39402006196394479212279040100143613805079739270465446667948293404245721771497210611414266254884915640806627990306816 % rN = _
    rw [key]
  · intro a b
    refine decide_eq_true ?_
    have ha := a.isLt
    have hb := b.isLt
    have h2 := rN2_lt
    have hs : (rNum - fqNum b).val = rN - b.val := by
      rw [Fin.sub_val_of_le (by show b.val ≤ rN; omega)]
      rfl
    have e : a - b = fqN (a.val + (rN - b.val)) := by
      have h3 : fqN (rN - b.val) = -b := by
        have h4 : fqN (rN - b.val) + b = 0 := by
          have e5 : rN - b.val + b.val = rN := Nat.sub_add_cancel (Nat.le_of_lt hb)
          have : fqN (rN - b.val) + fqN b.val = fqN rN := by rw [← fqN_add, e5]
          rw [fqN_val] at this
          rw [this]
          refine Fin.ext ?_
          rw [Fin.val_zero]
          exact Nat.mod_self rN
        grind
      rw [fqN_add, fqN_val, h3]
      grind
    rw [e]
    refine fqNum_fqN _ _ ?_
    rw [modN_val _ _ rNum_ne, v12_pad12, rNum_val, Fin.val_add, hs]
    have key : (a.val + (rN - b.val)) % 39402006196394479212279040100143613805079739270465446667948293404245721771497210611414266254884915640806627990306816 = a.val + (rN - b.val) := Nat.mod_eq_of_lt (by omega)
    show (a.val + (rN - b.val)) % 39402006196394479212279040100143613805079739270465446667948293404245721771497210611414266254884915640806627990306816 % rN = _
    rw [key]
  · intro a b
    refine decide_eq_true ?_
    have e : a * b = fqN (a.val * b.val) := by rw [fqN_mul, fqN_val, fqN_val]
    rw [e]
    refine fqNum_fqN _ _ ?_
    rw [modN_val _ _ rNum_ne, v12_n12, rNum_val]
    have h3 : a.val * b.val < rN * rN := Nat.mul_lt_mul'' a.isLt b.isLt
    have h4 : rN * rN < 18446744073709551616 ^ 12 := by rw [rN_val]; decide
    have key : (a.val * b.val) % 18446744073709551616 ^ 12 = a.val * b.val := Nat.mod_eq_of_lt (Nat.lt_trans h3 h4)
    show (a.val * b.val) % 18446744073709551616 ^ 12 % rN = _
    rw [key]
  · intro a b
    rw [eqN_eq]
    have : (a = b) = (fqNum a = fqNum b) := propext ⟨fun h => by rw [h], fun h => Fin.ext (by have := congrArg Fin.val h; exact this)⟩
    exact decide_eq_decide.2 (by rw [this])
  · rw [fq0_eq]; rfl
  · rw [fq0_eq, invQ_zero]; rfl
  · intro a; exact decide_eq_true (fq_laws a a a).2.2.2.2.2
  · intro a hz
    refine decide_eq_true ?_
    rw [fqOf1]
    exact mul_invQ (of_decide_eq_false hz)
end Go.Proofs.Ytaloefkkllebeaa
