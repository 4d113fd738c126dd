/- The reference's powers. -/
import Derived.Test.YtbdbmcdcjejffaaFeZ
set_option linter.unusedVariables false
set_option linter.unusedSimpArgs false
set_option linter.unusedSectionVars false
namespace Go.Proofs.Ytbdbmcdcjejffaa
open Go Go.Sh

/-- The loop of Pow, at its head: k bits have been. -/
def refPowSt (g : Spot) (l : List UInt8) (a r : Fp) (k : Nat) : St A :=
  ⟨slots 0 34 [(1, .val false [.e g.a (byteAt l) 0 l.length g.c]), (2, .val false [.p 0 0]), (4, .val false [.p 1 0]), (5, .val false [.p 2 0]), (6, .val false [.n .i64 k])],
   [some ⟨[.a (.big (.fp a))], 42, false⟩, some ⟨lit6, 42, false⟩, some ⟨[.a (.big (.fp r))], 42, false⟩], 0, [], []⟩

def tblW : List (Row A) := [rowOf A 46 (fun x : Fp × Fp × Unit => x.1 * x.2.1), rowOf A 164 (fun _ : Unit => (1 : Fp))]
theorem tblW_ok : TblOK Try.prog tblW := .cons refMul_ok.row (.cons refOne_ok.row (.nil _))

/-- Bit k, the highest first, as it is taken. -/
def bitB (l : List UInt8) (k : Nat) : Bool :=
  ((UInt8.ofNat (((BitVec.ofInt IntKind.u8.bits ((UInt8.ofNat ((l.getD ((k : Int).tdiv 8).toNat 0).toNat / 2 ^ min (7 - (k : Int).tmod 8).toNat IntKind.u8.bits)).toNat : Int) &&& BitVec.ofInt IntKind.u8.bits 1).toNat : Int) % 256).toNat).toNat : Int) == 1
def rp (l : List UInt8) (a : Fp) : Nat → Fp
  | 0 => 1
  | k + 1 => match bitB l k with | true => rp l a k * rp l a k * a | false => rp l a k * rp l a k

theorem rpow_loop (W : World) (g : Spot) (l : List UInt8) (a : Fp) (hg : HasBytes W l g) (hl : l.length < 1048576) : SoundFor Try.prog W.cell? [] (.loop (loopNo Try.f63 3)) (refPowSt g l a 1 0) (.exit 0) (refPowSt g l a (rp l a (8 * l.length)) (8 * l.length)) := by
  intro c e1 e2 e3 e4
  refine loopAt (inv := fun k => refPowSt g l a (rp l a k) k) (N := 8 * l.length) (by simp) (fun k hk => ?_) ?_
  · have h1 : (k : Int).tdiv 8 = (k / 8 : Nat) := rfl
    have h2 : (k : Int).tmod 8 = (k % 8 : Nat) := rfl
    obtain ⟨r, hr⟩ : ∃ r, r = rp l a k := ⟨_, rfl⟩
    have all : All [(0 : Int) ≤ 7 - (k : Int).tmod 8, WrapI (7 - (k : Int).tmod 8), Reads W.cell? g.a (byteAt (B := FB) l) ((k : Int).tdiv 8).toNat 1, Idx ((k : Int).tdiv 8) l.length, WrapI ((k : Int).tdiv 8), decide ((k : Int) < 8 * l.length) = true, WrapI (8 * (l.length : Int))] :=
      ⟨by rw [h2]; omega, wrapI (by rw [h2]; omega) (by rw [h2]; omega), reads_bytes hg (by rw [h1]; omega), ⟨by rw [h1]; omega, by rw [h1]; omega⟩, wrapI (by rw [h1]; omega) (by rw [h1]; omega), decide_eq_true (by omega), wrapI (by omega) (by omega), trivial⟩
    have hw : WrapI ((k : Int) + 1) := wrapI (by omega) (by omega)
    cases hb : bitB l k with
    | true =>
      have e : rp l a (k + 1) = r * r * a := by simp only [rp, hb, hr]
      rw [← hr, e]
      exact Round.of0 tblW_ok (says [(13, true), (29, true)]) 4 (WrapI ((k : Int) + 1) :: (bitB l k = true) :: _) (by kernel_rfl) (All.cons hw (All.cons hb all)) (by kernel_rfl) (by kernel_rfl) e1 e2 e3 e4
    | false =>
      have e : rp l a (k + 1) = r * r := by simp only [rp, hb, hr]
      rw [← hr, e]
      exact Round.of0 tblW_ok (says [(13, true), (29, false)]) 4 (WrapI ((k : Int) + 1) :: (bitB l k = false) :: _) (by kernel_rfl) (All.cons hw (All.cons hb all)) (by kernel_rfl) (by kernel_rfl) e1 e2 e3 e4
  · obtain ⟨r, hr⟩ : ∃ r, r = rp l a (8 * l.length) := ⟨_, rfl⟩
    simp only [← hr]
    obtain ⟨n, hn⟩ : ∃ n, n = 8 * l.length := ⟨_, rfl⟩
    rw [← hn]
    exact Round.of0 tblW_ok (says [(13, false)]) 4 [decide ((n : Int) < 8 * l.length) = false, WrapI (8 * (l.length : Int))] (by kernel_rfl) ⟨decide_eq_false (by omega), wrapI (by omega) (by omega), trivial⟩ (by kernel_rfl) (by kernel_rfl) e1 e2 e3 e4

end Go.Proofs.Ytbdbmcdcjejffaa
