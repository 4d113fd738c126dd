/- Fp: parity; elements of bytes. -/
import Derived.Test.YtbdbmcdcjejffaaFeP
set_option linter.unusedVariables false
set_option linter.unusedSimpArgs false
set_option linter.unusedSectionVars false
namespace Go.Proofs.Ytbdbmcdcjejffaa
open Go Go.Sh

theorem and_one (w : UInt64) : (((UInt64.ofNat (((BitVec.ofInt IntKind.u64.bits (w.toNat : Int) &&& BitVec.ofInt IntKind.u64.bits 1).toNat : Int) % 18446744073709551616).toNat).toNat : Int) == 1) = decide (w.toNat % 2 = 1) := by
  have h : (BitVec.ofInt IntKind.u64.bits (w.toNat : Int) &&& BitVec.ofInt IntKind.u64.bits 1).toNat = w.toNat % 2 := by
    show (BitVec.ofInt 64 (w.toNat : Int) &&& BitVec.ofInt 64 1).toNat = _
    have f1 : (BitVec.ofInt 64 (w.toNat : Int)).toNat = w.toNat := by
      rw [BitVec.toNat_ofInt]
      have := w.toNat_lt
      omega
    have f2 : (BitVec.ofInt 64 1).toNat = 1 := rfl
    rw [BitVec.toNat_and, f1, f2, Nat.and_one_is_mod]
  rw [h]
  have h2 : (((w.toNat % 2 : Nat) : Int) % 18446744073709551616).toNat = w.toNat % 2 := by omega
  rw [h2, UInt64.toNat_ofNat_of_lt' (by show w.toNat % 2 < 18446744073709551616; omega)]
  have : w.toNat % 2 = 0 ∨ w.toNat % 2 = 1 := by omega
  rcases this with e | e <;> rw [e] <;> rfl

theorem lim0 (n : Num) : (lim 0 (numL n)).toNat % 2 = n.val % 2 := by
  rw [lim_numL n 0 (by omega), Nat.pow_zero, Nat.div_one]
  omega

theorem oddRaw_ok : Computes A Try.prog 55 (fun x : Fp × Unit => (((UInt64.ofNat (((BitVec.ofInt IntKind.u64.bits ((lim 0 (numL (fpNum x.1))).toNat : Int) &&& BitVec.ofInt IntKind.u64.bits 1).toNat : Int) % 18446744073709551616).toNat).toNat : Int) == 1)) :=
  computes_of_run0 tblX_ok Try.func55 (by kernel_rfl) (by kernel_rfl) 8 (fun _ _ _ => by kernel_rfl)
theorem odd_ok : Computes A Try.prog 55 (fun x : Fp × Unit => oddF x.1) :=
  Computes.eq oddRaw_ok (fun x => by rw [and_one, lim0]; rfl)

def tblZ : List (Row A) := [rowOf A 144 (fun x : Bs × Unit => fromB x.1.l), rowOf A 147 (fun x : Pl × Unit => x.1.x), rowOf A 145 (fun x : Num × Num × Unit => decide (x.1 < x.2.1)), rowOf A 146 (fun _ : Unit => pNum)]
theorem tblZ_ok : TblOK Try.prog tblZ := .cons limbsFrom_ok.row (.cons made_ok.row (.cons limbsLess_ok.row (.cons prime_ok.row (.nil _))))

/-- The element of 48 bytes. -/
def fromE (l : List UInt8) : T2 Fp Bool := if l.length = 48 ∧ numB l < pN then ⟨fpN (numB l), true⟩ else ⟨0, false⟩

theorem partB_all (l : List UInt8) : partB l 0 l.length = l := by
  rw [partB_eq l (by omega)]; simp

theorem lessP {l : List UInt8} (h : l.length = 48) : decide (numOfB l < pNum) = decide (numB l < pN) := by
  show decide ((numOfB l).val < pN) = _
  unfold numOfB
  rw [dif_pos (by omega)]

theorem from_ok : Computes A Try.prog 27 (fun x : Bs × Unit => fromE x.1.l) := by
  refine computes_of_run tblZ_ok Try.func27 (by kernel_rfl) (by kernel_rfl) 8 ?_
  rintro ⟨g, _⟩ ⟨⟨l⟩, ⟨⟩⟩ W ⟨hg, _⟩
  have hg : HasBytes W l g := hg
  have hr : Reads W.cell? g.a (byteAt (B := FB) l) 0 l.length := reads_bytes hg (by omega)
  have hu := isU8_bytes (B := FB) l 0 l.length
  have hp := partB_all l
  by_cases h1 : l.length ≤ 48
  · by_cases h2 : l.length = 48
    · by_cases h3 : numB l < pN
      · refine ⟨says [(13, false), (18, false), (23, false)], _, [(fromB (partB l 0 l.length)).a.val < pN, (!decide ((fromB (partB l 0 l.length)).a < pNum)) = false, ((l.length : Int) != 48) = false, (!(fromB (partB l 0 l.length)).b) = false, Reads W.cell? g.a (byteAt (B := FB) l) 0 l.length, ∀ j, j < l.length → isU8 (byteAt (B := FB) l (0 + j)) = true],
          (by kernel_rfl : _ = some (some (T2.mk (plOf (fromB (partB l 0 l.length)).a).x true), _)), ?_, ?_⟩
        · rw [hp]
          have h4 : decide ((fromB l).a < pNum) = true := (lessP h2).trans (decide_eq_true h3)
          refine ⟨of_decide_eq_true h4, by rw [h4]; rfl, by rw [show (l.length : Int) = 48 by omega]; rfl, ?_, hr, hu, trivial⟩
          show (!decide (l.length ≤ 48)) = false
          rw [decide_eq_true h1]; rfl
        · rw [hp]
          have e : (fromB l).a.val = numB l := by show (numOfB l).val = _; unfold numOfB; rw [dif_pos h1]
          show T2.mk (plOf (fromB l).a).x true = fromE l
          unfold fromE
          rw [if_pos ⟨h2, h3⟩]
          congr 1
          apply Fin.ext
          show (fromB l).a.val % pN = numB l % pN
          rw [e]
      · refine ⟨says [(13, false), (18, false), (23, true)], _, [(!decide ((fromB (partB l 0 l.length)).a < pNum)) = true, ((l.length : Int) != 48) = false, (!(fromB (partB l 0 l.length)).b) = false, Reads W.cell? g.a (byteAt (B := FB) l) 0 l.length, ∀ j, j < l.length → isU8 (byteAt (B := FB) l (0 + j)) = true],
          (by kernel_rfl : _ = some (some (T2.mk (0 : Fp) false), _)), ?_, ?_⟩
        · rw [hp]
          have h4 : decide ((fromB l).a < pNum) = false := (lessP h2).trans (decide_eq_false h3)
          refine ⟨by rw [h4]; rfl, by rw [show (l.length : Int) = 48 by omega]; rfl, ?_, hr, hu, trivial⟩
          show (!decide (l.length ≤ 48)) = false
          rw [decide_eq_true h1]; rfl
        · show T2.mk (0 : Fp) false = fromE l
          unfold fromE
          rw [if_neg (fun h => h3 h.2)]
    · refine ⟨says [(13, false), (18, true)], _, [((l.length : Int) != 48) = true, (!(fromB (partB l 0 l.length)).b) = false, Reads W.cell? g.a (byteAt (B := FB) l) 0 l.length, ∀ j, j < l.length → isU8 (byteAt (B := FB) l (0 + j)) = true],
          (by kernel_rfl : _ = some (some (T2.mk (0 : Fp) false), _)), ?_, ?_⟩
      · rw [hp]
        refine ⟨bne_iff_ne.2 (by omega), ?_, hr, hu, trivial⟩
        show (!decide (l.length ≤ 48)) = false
        rw [decide_eq_true h1]; rfl
      · show T2.mk (0 : Fp) false = fromE l
        unfold fromE
        rw [if_neg (fun h => h2 h.1)]
  · refine ⟨says [(13, true)], _, [(!(fromB (partB l 0 l.length)).b) = true, Reads W.cell? g.a (byteAt (B := FB) l) 0 l.length, ∀ j, j < l.length → isU8 (byteAt (B := FB) l (0 + j)) = true],
          (by kernel_rfl : _ = some (some (T2.mk (0 : Fp) false), _)), ?_, ?_⟩
    · rw [hp]
      refine ⟨?_, hr, hu, trivial⟩
      show (!decide (l.length ≤ 48)) = true
      rw [decide_eq_false h1]; rfl
    · show T2.mk (0 : Fp) false = fromE l
      unfold fromE
      rw [if_neg (fun h => by omega)]

end Go.Proofs.Ytbdbmcdcjejffaa
