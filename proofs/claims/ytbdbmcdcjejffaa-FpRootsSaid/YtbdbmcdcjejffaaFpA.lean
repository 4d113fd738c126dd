/- The reference's powers: the contract. -/
import Derived.Test.YtbdbmcdcjejffaaFeO
set_option linter.unusedVariables false
set_option linter.unusedSimpArgs false
set_option linter.unusedSectionVars false
namespace Go.Proofs.Ytbdbmcdcjejffaa
open Go Go.Sh

theorem refPowRaw_ok : Computes A Try.prog 63 (fun x : Fp × Bt × Unit => rp x.2.1.l x.1 (8 * x.2.1.l.length)) := by
  refine computes_of_runW tblW_ok (ITblOK.nil _) Try.func63 (by kernel_rfl) (by kernel_rfl) 4 ?_
  rintro ⟨_, g, _⟩ ⟨a, ⟨l⟩, ⟨⟩⟩ W ⟨_, ⟨hg, hl⟩, _⟩
  have hs := rpow_loop W g l a hg hl
  obtain ⟨r, hr⟩ : ∃ r, r = rp l a (8 * l.length) := ⟨_, rfl⟩
  obtain ⟨n, hn⟩ : ∃ n, n = 8 * l.length := ⟨_, rfl⟩
  simp only [← hr]
  rw [← hr, ← hn] at hs
  refine ⟨fun _ _ => .keep, lps [(3, refPowSt g l a 1 0, .exit 0, refPowSt g l a r n)], r, [ToldIs (refPowSt g l a 1 0)], (by kernel_rfl), ⟨toldIs _, trivial⟩, rfl, ?_⟩
  intro body hb
  refine LoopsFor.cons ?_ hs LoopsFor.nil
  obtain rfl := Option.some.inj hb
  kernel_rfl

end Go.Proofs.Ytbdbmcdcjejffaa
