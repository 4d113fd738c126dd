/- The reference's powers of two of p, as bytes; its inverses, roots, signs, opposites. -/
import Derived.Test.YtbdbmcdcjejffaaFpB
set_option linter.unusedVariables false
set_option linter.unusedSimpArgs false
set_option linter.unusedSectionVars false
namespace Go.Proofs.Ytbdbmcdcjejffaa
open Go Go.Sh

/-- What shifted is asked for. -/
inductive ShK where
  | half
  | less2
  | quarter
def ShK.add : ShK → Int
  | .half => -1
  | .less2 => -2
  | .quarter => 1
def ShK.by : ShK → Nat
  | .half => 1
  | .less2 => 0
  | .quarter => 2
def ShK.num : ShK → Nat
  | .half => (pN - 1) / 2
  | .less2 => pN - 2
  | .quarter => (pN + 1) / 4

def shkOf (z : Int) (w : Int) : Option ShK :=
  if z = -1 then (if w = 1 then some .half else none) else if z = -2 then (if w = 0 then some .less2 else none) else if z = 1 then (if w = 2 then some .quarter else none) else none
theorem shkOf_ok {z w : Int} {k : ShK} (h : shkOf z w = some k) : z = k.add ∧ w = (k.by : Int) := by
  unfold shkOf at h
  split at h
  · split at h
    · cases h; rename_i h1 h2; exact ⟨h1, h2⟩
    · cases h
  · split at h
    · split at h
      · cases h; rename_i h1 h2; exact ⟨h1, h2⟩
      · cases h
    · split at h
      · split at h
        · cases h; rename_i h1 h2; exact ⟨h1, h2⟩
        · cases h
      · cases h

instance : Args A ShK where
  G := Unit
  good _ _ _ := True
  tvs _ k := [.val false [.v (.int .i64 k.add)], .val false [.v (.int .u64 k.by)]]
  vals _ k := [.int .i64 k.add, .int .u64 k.by]
  is β _ := ⟨_, _, LIs.of_single ⟨rfl, rfl⟩, ⟨_, _, LIs.of_single ⟨rfl, rfl⟩, rfl, rfl⟩, rfl⟩
  parse _ _ l :=
    match l with
    | [.val false [.v (.int .i64 z)], .val false [.v (.int .u64 w)]] => (match shkOf z w with | some k => some (k, []) | none => none)
    | _ => none
  ok := by
    intro c X W0 W β m l x vc vs h _ _ e
    split at h
    · rename_i z w
      split at h
      · rename_i k hk
        simp at h
        obtain ⟨rfl, rfl⟩ := h
        obtain ⟨h1, h2⟩ := shkOf_ok hk
        obtain ⟨v1, r1, k1, ⟨v2, r2, k2, k3, rfl⟩, rfl⟩ := e
        obtain rfl : r2 = [] := k3
        obtain ⟨k1, _⟩ := LIs.single (k1 : LIs β _ [v1])
        obtain ⟨k2, _⟩ := LIs.single (k2 : LIs β _ [v2])
        simp at k1 k2
        refine ⟨(), trivial, ?_⟩
        rw [k1, k2, h1, h2]
      · cases h
    · cases h

noncomputable def shB (k : ShK) : List UInt8 := shL k.add k.by
theorem shB_num : ∀ k, numB (shB k) = k.num
  | .half => shL_half
  | .less2 => shL_less2
  | .quarter => shL_quarter
theorem shB_len : ∀ k, (shB k).length = 48
  | .half => shL_len.1
  | .less2 => shL_len.2.1
  | .quarter => shL_len.2.2

theorem shifted_ok : Computes A Try.prog 162 (fun k : ShK => (⟨shB k⟩ : Bz)) := by
  refine computes_of_run tblSh_ok Try.func162 (by kernel_rfl) (by kernel_rfl) 12 ?_
  rintro _ (_ | _ | _) W -
  · exact ⟨fun _ _ => .keep, _, [], (by kernel_rfl : _ = some (some (Bz.mk (shL (-1) 1)), [])), trivial, rfl⟩
  · exact ⟨fun _ _ => .keep, _, [], (by kernel_rfl : _ = some (some (Bz.mk (shL (-2) 0)), [])), trivial, rfl⟩
  · exact ⟨fun _ _ => .keep, _, [], (by kernel_rfl : _ = some (some (Bz.mk (shL 1 2)), [])), trivial, rfl⟩

/-! ### Over variables -/
/-- Bytes that a call left, read as an argument. -/
abbrev GotB (l : List UInt8) : Prop := ∀ j, j < l.length → isU8 (byteAt (B := FB) l (0 + j)) = true

def tblPw (S : ShK → List UInt8) (P : Fp → List UInt8 → Fp) (M : Fp → Fp → Fp) (Z Lg : Fp → Bool) (N : Fp → Fp) (one : Fp) : List (Row A) :=
  [rowOf A 162 (fun k : ShK => (⟨S k⟩ : Bz)), rowOf A 63 (fun x : Fp × Bt × Unit => P x.1 x.2.1.l), rowOf A 46 (fun x : Fp × Fp × Unit => M x.1 x.2.1),
    rowOf A 53 (fun x : Fp × Unit => Z x.1), rowOf A 58 (fun x : Fp × Unit => Lg x.1), rowOf A 49 (fun x : Fp × Unit => N x.1), rowOf A 164 (fun _ : Unit => one)]

section
variable {S : ShK → List UInt8} {P : Fp → List UInt8 → Fp} {M : Fp → Fp → Fp} {Z Lg : Fp → Bool} {N : Fp → Fp} {one : Fp} (ht : TblOK Try.prog (tblPw S P M Z Lg N one)) (hS : ∀ k, (S k).length = 48)
include ht hS

theorem shortS (k : ShK) : (partB (S k) 0 (S k).length).length < 1048576 := by rw [partB_all, hS]; omega

theorem refInv_of : Computes A Try.prog 51 (fun x : Fp × Unit => P x.1 (partB (S .less2) 0 (S .less2).length)) := by
  refine computes_of_run ht Try.func51 (by kernel_rfl) (by kernel_rfl) 12 ?_
  rintro _ ⟨a, ⟨⟩⟩ W -
  exact ⟨fun _ _ => .keep, _, [(partB (S .less2) 0 (S .less2).length).length < 1048576, GotB (S .less2)], (by kernel_rfl : _ = some (some (P a (partB (S .less2) 0 (S .less2).length)), _)), ⟨shortS ht hS _, allU8 _, trivial⟩, rfl⟩

theorem refLegendre_of : Computes A Try.prog 61 (fun x : Fp × Unit => if Z x.1 = true then (0 : Int) else if eqL (limbs (P x.1 (partB (S .half) 0 (S .half).length))) (limbs one) = true then 1 else -1) := by
  refine computes_of_run ht Try.func61 (by kernel_rfl) (by kernel_rfl) 12 ?_
  rintro _ ⟨a, ⟨⟩⟩ W -
  cases hz : Z a with
  | true => exact ⟨says [(4, true)], _, [Z a = true], (by kernel_rfl : _ = some (some (0 : Int), _)), ⟨hz, trivial⟩, by simp only [hz, if_true]⟩
  | false =>
    cases he : eqL (limbs (P a (partB (S .half) 0 (S .half).length))) (limbs one) with
    | true => exact ⟨says [(4, false), (10, true)], _, [eqL (limbs (P a (partB (S .half) 0 (S .half).length))) (limbs one) = true, (partB (S .half) 0 (S .half).length).length < 1048576, GotB (S .half), Z a = false], (by kernel_rfl : _ = some (some (1 : Int), _)), ⟨he, shortS ht hS _, allU8 _, hz, trivial⟩, by simp only [hz, he, if_true, Bool.false_eq_true, if_false]⟩
    | false => exact ⟨says [(4, false), (10, false)], _, [eqL (limbs (P a (partB (S .half) 0 (S .half).length))) (limbs one) = false, (partB (S .half) 0 (S .half).length).length < 1048576, GotB (S .half), Z a = false], (by kernel_rfl : _ = some (some (-1 : Int), _)), ⟨he, shortS ht hS _, allU8 _, hz, trivial⟩, by simp only [hz, he, Bool.false_eq_true, if_false]⟩

/-- The root, as it is found. -/
def refRoot (S : ShK → List UInt8) (P : Fp → List UInt8 → Fp) (a : Fp) : Fp := P a (partB (S .quarter) 0 (S .quarter).length)

theorem refSqrt_of : Computes A Try.prog 59 (fun x : Fp × Unit => if eqL (limbs (M (refRoot S P x.1) (refRoot S P x.1))) (limbs x.1) = true then (if Lg (refRoot S P x.1) = true then T2.mk (N (refRoot S P x.1)) true else T2.mk (refRoot S P x.1) true) else T2.mk (0 : Fp) false) := by
  refine computes_of_run ht Try.func59 (by kernel_rfl) (by kernel_rfl) 12 ?_
  rintro _ ⟨a, ⟨⟩⟩ W -
  cases he : eqL (limbs (M (refRoot S P a) (refRoot S P a))) (limbs a) with
  | false => exact ⟨says [(12, true)], _, [(!eqL (limbs (M (refRoot S P a) (refRoot S P a))) (limbs a)) = true, (partB (S .quarter) 0 (S .quarter).length).length < 1048576, GotB (S .quarter)], (by kernel_rfl : _ = some (some (T2.mk (0 : Fp) false), _)), ⟨by rw [he]; rfl, shortS ht hS _, allU8 _, trivial⟩, by simp only [he, Bool.false_eq_true, if_false]⟩
  | true =>
    cases hl : Lg (refRoot S P a) with
    | true => exact ⟨says [(12, false), (15, true)], _, [Lg (refRoot S P a) = true, (!eqL (limbs (M (refRoot S P a) (refRoot S P a))) (limbs a)) = false, (partB (S .quarter) 0 (S .quarter).length).length < 1048576, GotB (S .quarter)], (by kernel_rfl : _ = some (some (T2.mk (N (refRoot S P a)) true), _)), ⟨hl, by rw [he]; rfl, shortS ht hS _, allU8 _, trivial⟩, by simp only [he, hl, if_true]⟩
    | false => exact ⟨says [(12, false), (15, false)], _, [Lg (refRoot S P a) = false, (!eqL (limbs (M (refRoot S P a) (refRoot S P a))) (limbs a)) = false, (partB (S .quarter) 0 (S .quarter).length).length < 1048576, GotB (S .quarter)], (by kernel_rfl : _ = some (some (T2.mk (refRoot S P a) true), _)), ⟨hl, by rw [he]; rfl, shortS ht hS _, allU8 _, trivial⟩, by simp only [he, hl, if_true, Bool.false_eq_true, if_false]⟩
end

end Go.Proofs.Ytbdbmcdcjejffaa
