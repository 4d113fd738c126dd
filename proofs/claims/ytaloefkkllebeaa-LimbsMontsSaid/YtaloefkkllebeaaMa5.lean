/- Montgomery's product: its contract, and its law. -/
import Derived.Test.YtaloefkkllebeaaMa4
set_option linter.unusedVariables false
set_option linter.unusedSimpArgs false
set_option linter.unusedSectionVars false
namespace Go.Proofs.Ytaloefkkllebeaa
open Go Go.Sh
def topV : Option UInt64 → UInt64
  | none => UInt64.ofNat 0
  | some w => w
def outR (f : Nat → UInt64) (o : Option UInt64) : R64 12 := ⟨pickN 0 [f 6, f 7, f 8, f 9, f 10, f 11, topV o, UInt64.ofNat 0, UInt64.ofNat 0, UInt64.ofNat 0, UInt64.ofNat 0, UInt64.ofNat 0]⟩
/-- Is the lowest bit 0? -/
def evenW (x : UInt64) : Bool := (((UInt64.ofNat (((BitVec.ofInt IntKind.u64.bits (x.toNat : Int) &&& BitVec.ofInt IntKind.u64.bits 1).toNat : Int) % 18446744073709551616).toNat).toNat : Int) == 0)
theorem evenW_eq (x : UInt64) : evenW x = decide (x.toNat % 2 = 0) := by
  unfold evenW
  have h : (BitVec.ofInt IntKind.u64.bits (x.toNat : Int) &&& BitVec.ofInt IntKind.u64.bits 1).toNat = x.toNat % 2 := by
    show (BitVec.ofInt 64 (x.toNat : Int) &&& BitVec.ofInt 64 1).toNat = _
    rw [BitVec.toNat_and, BitVec.ofInt_natCast, BitVec.toNat_ofNat, Nat.mod_eq_of_lt (show x.toNat < 2 ^ 64 from x.toNat_lt)]
    exact Nat.and_one_is_mod _
  rw [h]
  have h2 : (((x.toNat % 2 : Nat) : Int) % 18446744073709551616).toNat = x.toNat % 2 := by omega
  rw [h2, UInt64.toNat_ofNat_of_lt' (show _ < 18446744073709551616 by omega)]
  generalize x.toNat % 2 = z
  by_cases hz : z = 0
  · subst hz; rfl
  · rw [decide_eq_false hz]
    simp only [beq_eq_false_iff_ne, ne_eq]
    omega
section
variable (H L : UInt64 → UInt64 → UInt64 → UInt64 → UInt64) (S : UInt64 → UInt64 → Cy → UInt64) (C : UInt64 → UInt64 → Cy → Cy) (F : Num → Num → R64 12) (G : R64 12 → Num → Num) (O : UInt64 → UInt64)
def tblMz : List (Row A) :=
  [rowOf A 19 (fun x : Num × Num × Unit => F x.1 x.2.1), rowOf A 21 (fun x : R64 12 × Num × Unit => G x.1 x.2.1), rowOf A 58 (fun x : UInt64 × Unit => O x.1)]
theorem mont_of (tm : TblOK Try.prog (tblMm H L S C)) (to : TblOK Try.prog (tblMz F G O)) (MF : Num → Num → Num → Num)
    (h0 : ∀ a b m : Num, evenW (numL m).1 = true → numO (UInt64.ofNat 0, UInt64.ofNat 0, UInt64.ofNat 0, UInt64.ofNat 0, UInt64.ofNat 0, UInt64.ofNat 0) = MF a b m)
    (h1 : ∀ a b m : Num, evenW (numL m).1 = false → ∃ (f' : Nat → UInt64) (o' : Option UInt64), G (outR f' o') m = MF a b m ∧
      ∀ {old : Addr → Option Value} {k : Cfg A}, k.P = Try.prog → k.gl = (fun _ => none) → k.old = old → k.ys = [] → Goes k (loopNo Try.f23 7) (mS a b m (O (numL m).1) 0 (F a b).f none) (.exit 0) (mE a b m (O (numL m).1) f' o')) :
    Computes A Try.prog 23 (fun x : Num × Num × Num × Unit => MF x.1 x.2.1 x.2.2.1) := by
  refine computes_of_runT Try.func23 (by kernel_rfl) (by kernel_rfl) 8 ?_
  rintro _ ⟨a, b, m, ⟨⟩⟩ W -
  refine ⟨_, [], to, ITblOK.nil _, ?_⟩
  cases he : evenW (numL m).1 with
  | true =>
    exact ⟨says [(20, true)], noLoop, numO (UInt64.ofNat 0, UInt64.ofNat 0, UInt64.ofNat 0, UInt64.ofNat 0, UInt64.ofNat 0, UInt64.ofNat 0), [evenW (numL m).1 = true], by kernel_rfl, ⟨he, trivial⟩, h0 a b m he, fun body _ => loopsFor_none⟩
  | false =>
    obtain ⟨f', o', hG, hgo⟩ := h1 a b m he
    have hs : SoundFor Try.prog W.cell? [] (.loop (loopNo Try.f23 7)) (mS a b m (O (numL m).1) 0 (F a b).f none) (.exit 0) (mE a b m (O (numL m).1) f' o') := fun c q1 q2 q3 q4 => (hgo q1 q2 q3 q4).sound
    cases o' with
    | none =>
      refine ⟨says [(20, false)], lps [(7, mS a b m (O (numL m).1) 0 (F a b).f none, .exit 0, mE a b m (O (numL m).1) f' none)], G (outR f' none) m, [ToldIs (mS a b m (O (numL m).1) 0 (F a b).f none), evenW (numL m).1 = false], by kernel_rfl, ⟨toldIs _, he, trivial⟩, hG, fun body hb => ?_⟩
      refine LoopsFor.cons ?_ hs LoopsFor.nil
      obtain rfl := Option.some.inj hb
      kernel_rfl
    | some w =>
      refine ⟨says [(20, false)], lps [(7, mS a b m (O (numL m).1) 0 (F a b).f none, .exit 0, mE a b m (O (numL m).1) f' (some w))], G (outR f' (some w)) m, [ToldIs (mS a b m (O (numL m).1) 0 (F a b).f none), evenW (numL m).1 = false], by kernel_rfl, ⟨toldIs _, he, trivial⟩, hG, fun body hb => ?_⟩
      refine LoopsFor.cons ?_ hs LoopsFor.nil
      obtain rfl := Option.some.inj hb
      kernel_rfl
end
end Go.Proofs.Ytaloefkkllebeaa
