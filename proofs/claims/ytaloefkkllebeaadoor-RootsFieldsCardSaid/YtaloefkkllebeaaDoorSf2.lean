/- SHA-256: a pair's sum is that of both behind one another; the law of pairs. -/
import Derived.Test.YtaloefkkllebeaaDoorSf1
import Derived.Test.YtaloefkkllebeaaDoorEn3
set_option linter.unusedVariables false
set_option linter.unusedSimpArgs false
set_option linter.unusedSectionVars false
namespace Go.Sh
theorem fits_bytes : ∀ (n : Nat) {cs : List Value}, Fits (List.replicate n (.int .u8)) cs → ∃ l : List UInt8, l.length = n ∧ cs = l.map fun x => Value.int .u8 x.toNat
  | 0, [], _ => ⟨[], rfl, rfl⟩
  | 0, _ :: _, h => h.elim
  | n + 1, [], h => h.elim
  | n + 1, v :: vs, ⟨h1, h2⟩ => by
    obtain ⟨z, rfl, hw⟩ := h1
    obtain ⟨l, hl, rfl⟩ := fits_bytes n h2
    have hw' : (0 : Int) ≤ z ∧ z ≤ 255 := by simpa [Lit.wf, IntKind.min, IntKind.max, IntKind.signed, IntKind.bits] using hw
    obtain ⟨m, rfl⟩ := Int.eq_ofNat_of_zero_le hw'.1
    refine ⟨UInt8.ofNat m :: l, by simp [hl], ?_⟩
    simp only [List.map_cons]
    rw [UInt8.toNat_ofNat_of_lt' (show m < 256 by omega)]
theorem r8_vals' {n : Nat} (l : List UInt8) (h : l.length = n) : ((List.range n).map fun i => Value.int .u8 ((pickN 0 l i).toNat : Int)) = l.map fun x => Value.int .u8 x.toNat := by
  subst h
  exact pickN_range 0 (fun x : UInt8 => Value.int .u8 x.toNat) l
instance (n : Nat) : Opens A (R8 n) where
  kds := List.replicate n (.int .u8)
  opens cs h := by
    obtain ⟨l, hl, rfl⟩ := fits_bytes n h
    exact ⟨⟨pickN 0 l⟩, (r8_vals' l hl).symm⟩
end Go.Sh
namespace Go.Proofs.YtaloefkkllebeaaDoor
open Go Go.Sh
theorem blk_both (f g : Nat → UInt8) : blkF (bothL f g) 0 = both f g := by kernel_rfl
theorem last_both (f g : Nat → UInt8) : lastA (bothL f g) 64 0 64 = end64 := by kernel_rfl
theorem sumF_both (Fst : Nat → UInt32) (C : (Nat → UInt32) → (Nat → UInt8) → (Nat → UInt32)) (O : (Nat → UInt32) → (Nat → UInt8)) (f g : Nat → UInt8) :
    sumF Fst C O (bothL f g) = O (C (C Fst (both f g)) end64) := by
  have hl : (bothL f g).length = 64 := by simp [bothL]
  have h : sumF Fst C O (bothL f g) = O (C (C Fst (blkF (bothL f g) 0)) (lastA (bothL f g) 64 0 64)) := by
    unfold sumF
    rw [hl]
    rfl
  rw [h, blk_both, last_both]
theorem sum_both (f g : Nat → UInt8) : sumL (bothL f g) = pairR8 ⟨f⟩ ⟨g⟩ := by
  unfold sumL pairR8
  rw [sumF_both]
theorem makerPair_ok : Computes A Tryd.prog 34 (fun x : Ptr Mk × R8 32 × R8 32 × Unit => pairR8 x.2.1 x.2.2.1) := by
  have h := makerPair_of sumL (.cons refSum_ok.row (.nil _))
  have e : (fun x : Ptr Mk × R8 32 × R8 32 × Unit => (⟨(sumL (bothL x.2.1.f x.2.2.1.f)).f⟩ : R8 32)) = fun x => pairR8 x.2.1 x.2.2.1 := by
    funext x
    rw [sum_both]
  rw [e] at h
  exact h
theorem shaPairs_ok : Computes A Tryd.prog 5 (fun _ : GA (R8 32 × R8 32 × Unit) => true) :=
  shaPairs_of sumL (fun a b => pairR8 a b) (fun a b => pairR8 a b) (.cons known_ok.row (.cons sum_ok.row (.cons pair_ok.row (.cons new_ok.row (.cons makerPair_ok.row (.nil _)))))) (fun f g => by rw [bothM_eq, sum_both]) (fun _ _ => rfl)
end Go.Proofs.YtaloefkkllebeaaDoor
