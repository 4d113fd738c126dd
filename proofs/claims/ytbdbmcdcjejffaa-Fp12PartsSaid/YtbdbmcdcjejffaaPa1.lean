/- Elements of fp2 as arguments, laid whole or as words. -/
import Derived.Test.YtbdbmcdcjejffaaGb1
set_option linter.unusedVariables false
set_option linter.unusedSimpArgs false
set_option linter.unusedSectionVars false
set_option maxRecDepth 100000
namespace Go.Sh
theorem ofMont_mont (x : Fp) : ofMont (mont x) = x := by
  apply Fin.ext
  have h1 : (2 : Nat) ^ 384 * 3231460744492646417066832100176244795738767926513225105051837195607029917124509527734802654356338138714468589979680 % pN = 1 := by kernel_rfl
  show x.val * 2 ^ 384 % pN * 3231460744492646417066832100176244795738767926513225105051837195607029917124509527734802654356338138714468589979680 % pN = x.val
  rw [Nat.mod_mul_mod, Nat.mul_assoc, Nat.mul_mod, h1, Nat.mul_one, Nat.mod_mod, Nat.mod_eq_of_lt x.isLt]
/-- The number of six words. -/
def nW (a b c d e f : UInt64) : Nat := number a.toNat b.toNat c.toNat d.toNat e.toNat f.toNat
theorem limbs_nW {a b c d e f : UInt64} (h : mont (ofMont (nW a b c d e f)) = nW a b c d e f) : limbs (ofMont (nW a b c d e f)) = (a, b, c, d, e, f) := by
  apply val6_inj
  rw [val6_limbs, h]
  rfl
theorem nW_limbs (x : Fp) : nW (limbs x).1 (limbs x).2.1 (limbs x).2.2.1 (limbs x).2.2.2.1 (limbs x).2.2.2.2.1 (limbs x).2.2.2.2.2 = mont x := (val6_limbs x)
/-- An element of fp2. -/
structure Ew where
  w : Fp × Fp
def ewParse : TV A → Option (Ew × List Prop)
  | .val true l =>
    match wordsOf (flat l) with
    | some [a, b, c, d, e, f, a', b', c', d', e', f'] =>
      some (⟨(ofMont (nW a b c d e f), ofMont (nW a' b' c' d' e' f'))⟩, [mont (ofMont (nW a b c d e f)) = nW a b c d e f, mont (ofMont (nW a' b' c' d' e' f')) = nW a' b' c' d' e' f'])
    | _ => none
  | _ => none
instance : Arg A Ew where
  G := Unit
  good _ _ _ := True
  tv _ a := Rep.tv a.w
  val _ a := Rep.val (A := A) a.w
  is β _ := Rep.tv_is β _
  parse _ _ t := ewParse t
  ok := by
    intro c X W0 W β m t x vc v h hvc hm e
    unfold ewParse at h
    split at h
    · rename_i l
      split at h
      · rename_i a b cc d e' f a' b' c' d' e'' f' hw
        simp at h
        obtain ⟨rfl, rfl⟩ := h
        have h1 := limbs_nW (hvc _ (List.mem_cons_self ..))
        have h2 := limbs_nW (hvc _ (List.mem_cons_of_mem _ (List.mem_cons_self ..)))
        obtain ⟨vs, e1, rfl⟩ : ∃ vs, LIs β l vs ∧ v = .agg vs.toArray := e
        have e2 := wordsOf_is (flat_is e1) hw
        refine ⟨(), trivial, ?_⟩
        show _ = Value.agg (cells6 (limbs _) ++ cells6 (limbs _)).toArray
        rw [h1, h2, e2]
        rfl
      · cases h
    · cases h
end Go.Sh
namespace Go.Proofs.Ytbdbmcdcjejffaa
open Go Go.Sh
theorem eqW_ok : Computes A Try.prog 113 (fun x : Ew × Ew × Unit => decide (x.1.w = x.2.1.w)) :=
  Computes.as eq2_ok (fun x : Ew × Ew × Unit => (x.1.w, x.2.1.w, ())) (fun gh x W h => ⟨((), (), ()), ⟨trivial, trivial, trivial⟩, rfl⟩) (fun _ => rfl)
theorem same7W_ok : Computes A Try.prog 133 (fun x : Ew × F2 × Unit => decide (x.1.w = x.2.1)) :=
  Computes.as same7_ok (fun x : Ew × F2 × Unit => (x.1.w, x.2.1, ())) (fun gh x W h => ⟨((), (), ()), ⟨trivial, trivial, trivial⟩, rfl⟩) (fun _ => rfl)
end Go.Proofs.Ytbdbmcdcjejffaa
