/- Numbers of bytes. -/
import Derived.Test.YtbdbmcdcjejffaaFeH
set_option linter.unusedVariables false
set_option linter.unusedSimpArgs false
set_option linter.unusedSectionVars false
namespace Go.Proofs.Ytbdbmcdcjejffaa
open Go Go.Sh

/-- a or byte x, shifted by s. -/
def orRaw (a : UInt64) (x : UInt8) (s : Int) : UInt64 :=
  UInt64.ofNat (((BitVec.ofInt IntKind.u64.bits (a.toNat : Int) ||| BitVec.ofInt IntKind.u64.bits ((UInt64.ofNat (((UInt64.ofNat ((x.toNat : Int) % 18446744073709551616).toNat).toNat : Int) * 2 ^ min ((UInt64.ofNat (s % 18446744073709551616).toNat).toNat : Int).toNat IntKind.u64.bits % 18446744073709551616).toNat).toNat : Int)).toNat : Int) % 18446744073709551616).toNat

/-- The loop of limbs.From, at its head: k bytes have been. -/
def fromSt (g : Spot) (l : List UInt8) (f : Nat → UInt64) (k : Nat) : St A :=
  ⟨slots 0 39 [(0, .val false [.e g.a (byteAt l) 0 l.length g.c]), (2, .val false [.p 0 0]), (3, .val false [.v (.bool false)]), (4, .val false [.p 1 0]), (12, .val false [.n .i64 l.length]), (13, .val false [.n .i64 k])],
   [some ⟨lit6, 26, false⟩, some ⟨[.a (.w64 6 f)], 26, false⟩], 0, [], []⟩

def zero64 : Nat → UInt64 := pickN 0 [0, 0, 0, 0, 0, 0]

/-- The words, behind k bytes. -/
def fromF (l : List UInt8) : Nat → (Nat → UInt64)
  | 0 => zero64
  | k + 1 => upd (fromF l k) (((l.length : Int) - 1 - k).tdiv 8).toNat (orRaw (fromF l k (((l.length : Int) - 1 - k).tdiv 8).toNat) (l.getD k 0) (8 * ((l.length : Int) - 1 - k).tmod 8))

theorem from_loop (W : World) (g : Spot) (l : List UInt8) (hg : HasBytes W l g) (hl : l.length ≤ 48) : SoundFor Try.prog W.cell? [] (.loop (loopNo Try.f144 5)) (fromSt g l zero64 0) (.exit 0) (fromSt g l (fromF l l.length) l.length) := by
  intro c e1 e2 e3 e4
  refine loopAt (inv := fun k => fromSt g l (fromF l k) k) (N := l.length) (by simp) (fun k hk => ?_) ?_
  · have hz : (l.length : Int) - 1 - k = ((l.length - 1 - k : Nat) : Int) := by omega
    have h1 : ((l.length : Int) - 1 - k).tdiv 8 = ((l.length - 1 - k) / 8 : Nat) := by rw [hz]; rfl
    have h2 : ((l.length : Int) - 1 - k).tmod 8 = ((l.length - 1 - k) % 8 : Nat) := by rw [hz]; rfl
    refine Round.of0 (TblOK.nil _) (says [(14, true)]) 4
      [WrapI ((k : Int) + 1), Idx (((l.length : Int) - 1 - k).tdiv 8) 6, (0 : Int) ≤ (UInt64.ofNat (8 * ((l.length : Int) - 1 - k).tmod 8 % 18446744073709551616).toNat).toNat, WrapI (8 * ((l.length : Int) - 1 - k).tmod 8),
        Reads W.cell? g.a (byteAt (B := FB) l) k 1, Idx k l.length, Idx (((l.length : Int) - 1 - k).tdiv 8) 6, WrapI (((l.length : Int) - 1 - k).tdiv 8), WrapI ((l.length : Int) - 1 - k), WrapI ((l.length : Int) - 1), decide ((k : Int) < l.length) = true]
      (by kernel_rfl) ?_ (by kernel_rfl) (by kernel_rfl) e1 e2 e3 e4
    refine ⟨wrapI (by omega) (by omega), ⟨by rw [h1]; omega, by rw [h1]; omega⟩, by omega, wrapI (by rw [h2]; omega) (by rw [h2]; omega), reads_bytes hg (by omega), ⟨by omega, by omega⟩, ⟨by rw [h1]; omega, by rw [h1]; omega⟩, wrapI (by rw [h1]; omega) (by rw [h1]; omega),
      wrapI (by omega) (by omega), wrapI (by omega) (by omega), decide_eq_true (by omega), trivial⟩
  · exact Round.of0 (TblOK.nil _) (says [(14, false)]) 4 [decide ((l.length : Int) < l.length) = false] (by kernel_rfl) ⟨decide_eq_false (by omega), trivial⟩ (by kernel_rfl) (by kernel_rfl) e1 e2 e3 e4

theorem fromRaw_ok : Computes A Try.prog 144 (fun x : Bs × Unit => if x.1.l.length ≤ 48 then T2.mk (numO (fromF x.1.l x.1.l.length 0, fromF x.1.l x.1.l.length 1, fromF x.1.l x.1.l.length 2, fromF x.1.l x.1.l.length 3, fromF x.1.l x.1.l.length 4, fromF x.1.l x.1.l.length 5)) true else T2.mk (0 : Num) false) := by
  refine computes_of_runW (TblOK.nil _) (ITblOK.nil _) Try.func144 (by kernel_rfl) (by kernel_rfl) 4 ?_
  rintro ⟨g, _⟩ ⟨⟨l⟩, ⟨⟩⟩ W ⟨hg, _⟩
  by_cases hl : l.length ≤ 48
  · obtain ⟨F, hF⟩ : ∃ F, F = fromF l l.length := ⟨_, rfl⟩
    have hs := from_loop W g l hg hl
    rw [← hF] at hs
    refine ⟨says [(9, false)], lps [(5, fromSt g l zero64 0, .exit 0, fromSt g l F l.length)], _, _, (by kernel_rfl : _ = some (some (T2.mk (numO (F 0, F 1, F 2, F 3, F 4, F 5)) true), [ToldIs (fromSt g l zero64 0), decide ((l.length : Int) > 48) = false])),
      ⟨toldIs _, decide_eq_false (by omega), trivial⟩, ?_, ?_⟩
    · simp only [hl, if_true, hF]
    · intro body hb
      refine LoopsFor.cons ?_ hs LoopsFor.nil
      obtain rfl := Option.some.inj hb
      kernel_rfl
  · refine ⟨says [(9, true)], noLoop, _, _, (by kernel_rfl : _ = some (some (T2.mk (0 : Num) false), [decide ((l.length : Int) > 48) = true])), ⟨decide_eq_true (by omega), trivial⟩, ?_, fun body _ => loopsFor_none⟩
    simp only [hl, if_false]

end Go.Proofs.Ytbdbmcdcjejffaa
