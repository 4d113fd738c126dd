/- The law of the signs. -/
import Derived.Test.YtbdbmcdcjejffaaFe5
set_option linter.unusedVariables false
set_option linter.unusedSimpArgs false
set_option linter.unusedSectionVars false
namespace Go.Proofs.Ytbdbmcdcjejffaa
open Go Go.Sh

theorem neg_val {a : Fp} (h : a ≠ 0) : (-a).val = pN - a.val := by
  have hv : a.val ≠ 0 := fun e => h (Fin.ext e)
  have hl := a.isLt
  show (pN - a.val) % pN = pN - a.val
  exact Nat.mod_eq_of_lt (by omega)
theorem odd_neg {a : Fp} (h : a ≠ 0) : oddF (-a) = !oddF a := by
  unfold oddF
  rw [neg_val h]
  have hl := a.isLt
  have hp : pN % 2 = 1 := by rw [pN_val]
  by_cases e : a.val % 2 = 1
  · rw [decide_eq_true e, decide_eq_false (by omega)]; rfl
  · rw [decide_eq_false e, decide_eq_true (by omega)]; rfl
theorem large_neg {a : Fp} (h : a ≠ 0) : largeF (-a) = !largeF a := by
  unfold largeF
  rw [neg_val h]
  have hl := a.isLt
  have hv : a.val ≠ 0 := fun e => h (Fin.ext e)
  have hp : pN % 2 = 1 := by rw [pN_val]
  by_cases e : (pN - 1) / 2 < a.val
  · rw [decide_eq_true e, decide_eq_false (by omega)]; rfl
  · rw [decide_eq_false e, decide_eq_true (by omega)]; rfl

noncomputable def tblSigns (k : Nat) (Wd : List UInt8 → Fp) (R N : Fp → Fp) (Od Lg Z rO rL : Fp → Bool) : List (Row A) :=
  [rowOf A 25 (fun _ : Unit => true), lightRow k, rowOf A 35 (fun x : Bt × Unit => Wd x.1.l), rowOf A 40 (fun x : Fp × Unit => R x.1), rowOf A 48 (fun x : Fp × Unit => N x.1),
    rowOf A 55 (fun x : Fp × Unit => Od x.1), rowOf A 57 (fun x : Fp × Unit => Lg x.1), rowOf A 31 (fun x : Fp × Unit => Z x.1),
    rowOf A 56 (fun x : Fp × Unit => rO x.1), rowOf A 58 (fun x : Fp × Unit => rL x.1)]

structure SignsIs (R N : Fp → Fp) (Od Lg Z rO rL : Fp → Bool) : Prop where
  h1 : ∀ a, rO (R a) = Od a
  h2 : ∀ a, rL (R a) = Lg a
  h3 : ∀ a, Z a = true → Od a = false ∧ Lg a = false
  h4 : ∀ a, Z a = false → Od (N a) = !Od a
  h5 : ∀ a, Z a = false → Lg (N a) = !Lg a

theorem signs_of (Wd : List UInt8 → Fp) (R N : Fp → Fp) (Od Lg Z rO rL : Fp → Bool) (ht : ∀ k, TblOK Try.prog (tblSigns k Wd R N Od Lg Z rO rL)) (h : SignsIs R N Od Lg Z rO rL) :
    Computes A Try.prog 7 (fun _ : Bs × Unit => true) := by
  refine computes_of_runT0 Try.func7 (by kernel_rfl) (by kernel_rfl) 8 ?_
  rintro ⟨g1, _⟩ ⟨⟨x⟩, ⟨⟩⟩ W ⟨k1, _⟩
  have k1 : HasBytes W x g1 := k1
  by_cases hx : x.length ≤ 128
  · obtain ⟨a, ha⟩ : ∃ a, a = Wd (partB x 0 x.length) := ⟨_, rfl⟩
    have rest : All [(partB x 0 x.length).length < 1048576, ReadB W g1 x, AllU8 x, decide ((x.length : Int) > 128) = false, true = true] := ⟨shortB hx, readB k1, allU8 x, decide_eq_false (by omega), rfl, trivial⟩
    have e1 := h.h1 a
    have e2 := h.h2 a
    refine ⟨_, ht 0, ?_⟩
    cases hz : Z a with
    | true =>
      obtain ⟨h1, h2⟩ := h.h3 a hz
      rw [h1] at e1
      rw [h2] at e2
      refine ⟨saysY [(13, false), (16, false), (20, false), (23, false), (27, true), (29, false), (33, false), (15, true)], _, (Lg a = false) :: (Od a = false) :: (Z a = true) :: (rL (R a) = false) :: (Lg a = false) :: (rO (R a) = false) :: (Od a = false) :: _, ?_, All.cons h2 (All.cons h1 (All.cons hz (All.cons e2 (All.cons h2 (All.cons e1 (All.cons h1 rest)))))), rfl⟩
      subst ha
      kernel_rfl
    | false =>
      have h4 := h.h4 a hz
      have h5 := h.h5 a hz
      cases ho : Od a with
      | true =>
        rw [ho] at e1 h4
        cases hg : Lg a with
        | true =>
          rw [hg] at e2 h5
          refine ⟨saysY [(13, true), (16, true), (20, true), (23, true), (27, false), (37, true), (40, false), (44, true), (47, false)], _, (Lg (N a) = false) :: (Lg a = true) :: (Od (N a) = false) :: (Od a = true) :: (Z a = false) :: (rL (R a) = true) :: (Lg a = true) :: (rO (R a) = true) :: (Od a = true) :: _, ?_, All.cons h5 (All.cons hg (All.cons h4 (All.cons ho (All.cons hz (All.cons e2 (All.cons hg (All.cons e1 (All.cons ho rest)))))))), rfl⟩
          subst ha
          kernel_rfl
        | false =>
          rw [hg] at e2 h5
          refine ⟨saysY [(13, true), (16, true), (20, false), (23, false), (27, false), (37, true), (40, false), (44, false), (47, true)], _, (Lg (N a) = true) :: (Lg a = false) :: (Od (N a) = false) :: (Od a = true) :: (Z a = false) :: (rL (R a) = false) :: (Lg a = false) :: (rO (R a) = true) :: (Od a = true) :: _, ?_, All.cons h5 (All.cons hg (All.cons h4 (All.cons ho (All.cons hz (All.cons e2 (All.cons hg (All.cons e1 (All.cons ho rest)))))))), rfl⟩
          subst ha
          kernel_rfl
      | false =>
        rw [ho] at e1 h4
        cases hg : Lg a with
        | true =>
          rw [hg] at e2 h5
          refine ⟨saysY [(13, false), (16, false), (20, true), (23, true), (27, false), (37, false), (40, true), (44, true), (47, false)], _, (Lg (N a) = false) :: (Lg a = true) :: (Od (N a) = true) :: (Od a = false) :: (Z a = false) :: (rL (R a) = true) :: (Lg a = true) :: (rO (R a) = false) :: (Od a = false) :: _, ?_, All.cons h5 (All.cons hg (All.cons h4 (All.cons ho (All.cons hz (All.cons e2 (All.cons hg (All.cons e1 (All.cons ho rest)))))))), rfl⟩
          subst ha
          kernel_rfl
        | false =>
          rw [hg] at e2 h5
          refine ⟨saysY [(13, false), (16, false), (20, false), (23, false), (27, false), (37, false), (40, true), (44, false), (47, true)], _, (Lg (N a) = true) :: (Lg a = false) :: (Od (N a) = true) :: (Od a = false) :: (Z a = false) :: (rL (R a) = false) :: (Lg a = false) :: (rO (R a) = false) :: (Od a = false) :: _, ?_, All.cons h5 (All.cons hg (All.cons h4 (All.cons ho (All.cons hz (All.cons e2 (All.cons hg (All.cons e1 (All.cons ho rest)))))))), rfl⟩
          subst ha
          kernel_rfl
  · exact ⟨_, ht 1, saysY [], true, [decide ((x.length : Int) > 128) = true, true = true], by kernel_rfl, ⟨decide_eq_true (by omega), rfl, trivial⟩, rfl⟩

end Go.Proofs.Ytbdbmcdcjejffaa

/- The reference's parity; its powers of two of p. -/
namespace Go.Proofs.Ytbdbmcdcjejffaa
open Go Go.Sh

def tblRO : List (Row A) := [rowOf A 151 (fun x : Fp × Unit => fpNum x.1)]
theorem tblRO_ok : TblOK Try.prog tblRO := .cons refNumber_ok.row (.nil _)
theorem refOddRaw_ok : Computes A Try.prog 56 (fun x : Fp × Unit => (((UInt64.ofNat (((BitVec.ofInt IntKind.u64.bits ((lim 0 (numL (fpNum x.1))).toNat : Int) &&& BitVec.ofInt IntKind.u64.bits 1).toNat : Int) % 18446744073709551616).toNat).toNat : Int) == 1)) :=
  computes_of_run0 tblRO_ok Try.func56 (by kernel_rfl) (by kernel_rfl) 8 (fun _ _ _ => by kernel_rfl)
theorem refOdd_ok : Computes A Try.prog 56 (fun x : Fp × Unit => oddF x.1) :=
  Computes.eq refOddRaw_ok (fun x => by rw [and_one, lim0]; rfl)

def tblSh : List (Row A) := [rowOf A 30 (fun _ : Unit => p6), rowOf A 148 (fun x : L6 × L6 × Unit => T2.mk (sub6 x.1 x.2.1) (subTop x.1 x.2.1)), rowOf A 158 (fun x : L6 × L6 × Unit => T2.mk (add6 x.1 x.2.1) (addTop x.1 x.2.1)), rowOf A 136 (fun x : L6 × Unit => bytesL6 x.1)]
theorem tblSh_ok : TblOK Try.prog tblSh := .cons refPL_ok.row (.cons refSubL_ok.row (.cons refAddL_ok.row (.cons refBytesL_ok.row (.nil _))))
noncomputable def shRow : Row A := rowIn Try.prog tblSh [] (fun _ _ => .keep) 12 162 Try.f162
theorem shRow_ok : RowOK Try.prog shRow := rowIn_ok tblSh_ok (ITblOK.nil _) _ 12 Try.func162 (by kernel_rfl) (by kernel_rfl)

end Go.Proofs.Ytbdbmcdcjejffaa

/- The reference's size. -/
namespace Go.Proofs.Ytbdbmcdcjejffaa
open Go Go.Sh

/-- The bytes that shifted tells. -/
noncomputable def shL (add : Int) (n : Nat) : List UInt8 :=
  match shRow.e (fun _ => none) [.val false [.v (.int .i64 add)], .val false [.v (.int .u64 n)]] [] with
  | some (.val false [.s j _ _ _], some m, _) => (match nth m j with | some (some b) => (match bytesL (flat b.cells) with | some l => l | none => []) | _ => [])
  | _ => []
theorem shL_half : numB (shL (-1) 1) = (pN - 1) / 2 := by kernel_rfl
theorem shL_less2 : numB (shL (-2) 0) = pN - 2 := by kernel_rfl
theorem shL_quarter : numB (shL 1 2) = (pN + 1) / 4 := by kernel_rfl
theorem shL_len : (shL (-1) 1).length = 48 ∧ (shL (-2) 0).length = 48 ∧ (shL 1 2).length = 48 := ⟨by kernel_rfl, by kernel_rfl, by kernel_rfl⟩

end Go.Proofs.Ytbdbmcdcjejffaa

/- The reference's size: the contract. -/
namespace Go.Proofs.Ytbdbmcdcjejffaa
open Go Go.Sh

noncomputable def tblLg : List (Row A) := [shRow, rowOf A 28 (fun x : Bs × Unit => fromB x.1.l), rowOf A 151 (fun x : Fp × Unit => fpNum x.1), rowOf A 29 (fun x : Num × Num × Unit => decide (x.1 < x.2.1))]
theorem tblLg_ok : TblOK Try.prog tblLg := .cons shRow_ok (.cons refFrom_ok.row (.cons refNumber_ok.row (.cons refLess_ok.row (.nil _))))
theorem fromB_of {l : List UInt8} {n : Nat} (h : l.length = 48) (hn : numB l = n) : (fromB l).a.val = n := by
  show (numOfB l).val = n
  unfold numOfB
  rw [dif_pos (by omega)]
  exact hn
theorem large_of {m : Num} (a : Fp) (h : m.val = (pN - 1) / 2) : decide (m < fpNum a) = largeF a := by
  show decide (m.val < a.val) = _
  rw [h]; rfl
theorem refLarge_ok : Computes A Try.prog 58 (fun x : Fp × Unit => largeF x.1) := by
  refine Computes.eq (f := fun x : Fp × Unit => decide ((fromB (shL (-1) 1)).a < fpNum x.1)) (computes_of_run0 tblLg_ok Try.func58 (by kernel_rfl) (by kernel_rfl) 12 (fun _ _ _ => by kernel_rfl)) (fun x => ?_)
  exact large_of x.1 (fromB_of shL_len.1 shL_half)

end Go.Proofs.Ytbdbmcdcjejffaa

/- FpSigns, out of the contracts. -/
namespace Go.Proofs.Ytbdbmcdcjejffaa
open Go Go.Sh

theorem tblSigns_ok (k : Nat) : TblOK Try.prog (tblSigns k wideF (fun a => a) (fun a => -a) oddF largeF (fun a => decide (a = 0)) oddF largeF) :=
  .cons known_ok.row (.cons (lightRow_ok k) (.cons wide_ok.row (.cons ref_ok.row (.cons neg_ok.row (.cons odd_ok.row (.cons large_ok.row (.cons isZero_ok.row (.cons refOdd_ok.row (.cons refLarge_ok.row (.nil _))))))))))
theorem signs_ok : Computes A Try.prog 7 (fun _ : Bs × Unit => true) := by
  refine signs_of _ _ _ _ _ _ _ _ tblSigns_ok ⟨fun _ => rfl, fun _ => rfl, fun a h => ?_, fun a h => odd_neg (of_decide_eq_false h), fun a h => large_neg (of_decide_eq_false h)⟩
  have h := of_decide_eq_true h
  subst h
  exact ⟨by kernel_rfl, by kernel_rfl⟩

end Go.Proofs.Ytbdbmcdcjejffaa
