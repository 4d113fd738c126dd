/- The document's element; what is the same. -/
import Derived.Test.YtbdbmcdcjejffaaFeU
import Derived.Test.YtbdbmcdcjejffaaFeT
set_option linter.unusedVariables false
set_option linter.unusedSimpArgs false
set_option linter.unusedSectionVars false
namespace Go.Proofs.Ytbdbmcdcjejffaa
open Go Go.Sh

def tblRef : List (Row A) := [rowOf A 32 (fun x : Fp × Unit => bytesN x.1.val), rowOf A 28 (fun x : Bs × Unit => fromB x.1.l), rowOf A 36 (fun x : Pl × Unit => x.1.x)]
theorem tblRef_ok : TblOK Try.prog tblRef := .cons bytes_ok.row (.cons refFrom_ok.row (.cons refOf_ok.row (.nil _)))

theorem from_bytes (a : Fp) : (fromB (listB (byteN a.val))).a.val = a.val := by
  show (numOfB (listB (byteN a.val))).val = a.val
  unfold numOfB
  rw [dif_pos (by show ((List.range 48).map _).length ≤ 48; simp)]
  exact numB_bytesN (fp_lt a)

theorem ref_ok : Computes A Try.prog 40 (fun x : Fp × Unit => x.1) := by
  refine Computes.eq (f := fun x : Fp × Unit => (plOf (fromB (listB (byteN x.1.val))).a).x) ?_ (fun x => Fin.ext ?_)
  · refine computes_of_run tblRef_ok Try.func40 (by kernel_rfl) (by kernel_rfl) 8 ?_
    rintro _ ⟨a, ⟨⟩⟩ W -
    exact ⟨fun _ _ => .keep, _, [(fromB (listB (byteN a.val))).a.val < pN], (by kernel_rfl : _ = some (some (plOf (fromB (listB (byteN a.val))).a).x, _)), ⟨by rw [from_bytes]; exact a.isLt, trivial⟩, rfl⟩
  · show (fromB (listB (byteN x.1.val))).a.val % pN = x.1.val
    rw [from_bytes, Nat.mod_eq_of_lt x.1.isLt]

/-- Are the bytes from i on, n of them, the same? -/
def eqB (f g : Nat → UInt8) : Nat → Nat → Bool
  | 0, _ => true
  | n + 1, i => ((f i).toNat : Int) == (g i).toNat && eqB f g n (i + 1)
theorem eqB_true {f g : Nat → UInt8} : ∀ {n i : Nat}, eqB f g n i = true → ∀ j, j < n → f (i + j) = g (i + j)
  | n + 1, i, h, j, hj => by
    simp only [eqB, Bool.and_eq_true] at h
    cases j with
    | zero =>
      have h1 : ((f i).toNat : Int) = (g i).toNat := eq_of_beq h.1
      rw [Nat.add_zero]
      exact UInt8.toNat_inj.1 (Int.ofNat.inj h1)
    | succ j =>
      have := eqB_true h.2 j (by omega)
      rwa [show i + 1 + j = i + (j + 1) by omega] at this
theorem eqB_self (f : Nat → UInt8) : ∀ n i : Nat, eqB f f n i = true
  | 0, _ => rfl
  | n + 1, i => by simp only [eqB, Bool.and_eq_true]; exact ⟨by simp, eqB_self f n (i + 1)⟩
theorem eqB_bytes (a b : Fp) : eqB (byteN a.val) (byteN b.val) 48 0 = decide (a = b) := by
  by_cases h : a = b
  · subst h; rw [eqB_self, decide_eq_true rfl]
  · rw [decide_eq_false h]
    cases e : eqB (byteN a.val) (byteN b.val) 48 0 with
    | false => rfl
    | true =>
      have h1 := eqB_true e
      have : (List.range 48).map (byteN a.val) = (List.range 48).map (byteN b.val) := by
        apply List.map_congr_left
        intro i hi
        have := h1 i (List.mem_range.1 hi)
        simpa using this
      have h2 := congrArg numB this
      rw [numB_bytesN (fp_lt a), numB_bytesN (fp_lt b)] at h2
      exact absurd (Fin.ext h2) h

def tblSame : List (Row A) := [rowOf A 32 (fun x : Fp × Unit => bytesN x.1.val), rowOf A 136 (fun x : Num × Unit => bytesN x.1.val), rowOf A 151 (fun x : Fp × Unit => fpNum x.1)]
theorem tblSame_ok : TblOK Try.prog tblSame := .cons bytes_ok.row (.cons refBytes_ok.row (.cons refNumber_ok.row (.nil _)))
theorem same_ok : Computes A Try.prog 34 (fun x : Fp × Fp × Unit => decide (x.1 = x.2.1)) :=
  Computes.eq (f := fun x : Fp × Fp × Unit => eqB (byteN x.1.val) (byteN x.2.1.val) 48 0) (computes_of_run0 tblSame_ok Try.func34 (by kernel_rfl) (by kernel_rfl) 8 (fun _ _ _ => by kernel_rfl)) (fun x => eqB_bytes x.1 x.2.1)

end Go.Proofs.Ytbdbmcdcjejffaa
