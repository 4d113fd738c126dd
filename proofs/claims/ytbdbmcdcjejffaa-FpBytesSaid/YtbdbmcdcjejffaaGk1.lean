/- The law of bytes, walked over variable functions. -/
import Derived.Test.YtbdbmcdcjejffaaRa3
import Derived.Test.YtbdbmcdcjejffaaRb1
import Derived.Test.YtbdbmcdcjejffaaFp2
set_option linter.unusedVariables false
set_option linter.unusedSimpArgs false
set_option linter.unusedSectionVars false
namespace Go.Proofs.Ytbdbmcdcjejffaa
open Go Go.Sh
theorem refTimes_ok : Computes A Try.prog 154 (fun x : Num × Num × Unit => n12 (x.1.val * x.2.1.val)) := times_ok mul64_ok add64_ok
theorem refWide_ok : Computes A Try.prog 37 (fun x : Bt × Num × Unit => rwideN x.1.l x.2.1 x.1.l.length) := refWide_of (.cons refTimes_ok.row (.cons refMod_ok.row (.cons add64_ok.row (.nil _))))
section
variable (k : Nat) (FF : List UInt8 → T2 Fp Bool) (RF : List UInt8 → T2 Num Bool) (Pm : Num) (RL : Num → Num → Bool) (Z : Fp → Bool) (B : Fp → R8 48) (SB : List UInt8 → List UInt8 → Bool) (Wd : List UInt8 → Fp) (WR : List UInt8 → Num → Num) (OfP : Fp → Fp) (Sl O : UInt64 → Fp) (Sm : Fp → Fp → Bool)
noncomputable def tblBy : List (Row A) :=
  [rowOf A 25 (fun _ : Unit => true), lightRow k, rowOf A 27 (fun x : Bs × Unit => FF x.1.l), rowOf A 28 (fun x : Bs × Unit => RF x.1.l), rowOf A 30 (fun _ : Unit => Pm),
    rowOf A 29 (fun x : Num × Num × Unit => RL x.1 x.2.1), rowOf A 31 (fun x : Fp × Unit => Z x.1), rowOf A 32 (fun x : Fp × Unit => B x.1), rowOf A 33 (fun x : Bs × Bs × Unit => SB x.1.l x.2.1.l),
    rowOf A 35 (fun x : Bt × Unit => Wd x.1.l), rowOf A 37 (fun x : Bt × Num × Unit => WR x.1.l x.2.1), rowOf A 36 (fun x : Pl × Unit => OfP x.1.x), rowOf A 39 (fun x : UInt64 × Unit => Sl x.1),
    rowOf A 38 (fun x : UInt64 × Unit => O x.1), rowOf A 34 (fun x : Fp × Fp × Unit => Sm x.1 x.2.1)]
structure BytesIs : Prop where
  h1 : ∀ l, (FF l).b = (decide (l.length = 48) && RL (RF l).a Pm)
  h2 : ∀ l, (FF l).b = false → Z (FF l).a = true
  h3 : ∀ l, (FF l).b = true → SB (listB (B (FF l).a).f) l = true
  h4 : ∀ l, (WR l Pm).val < pN
  h5 : ∀ l, Sm (Wd l) (OfP (plOf (WR l Pm)).x) = true
  h6 : ∀ n, Sm (O n) (Sl n) = true
end
theorem fpBytes_of (FF : List UInt8 → T2 Fp Bool) (RF : List UInt8 → T2 Num Bool) (Pm : Num) (RL : Num → Num → Bool) (Z : Fp → Bool) (B : Fp → R8 48) (SB : List UInt8 → List UInt8 → Bool) (Wd : List UInt8 → Fp) (WR : List UInt8 → Num → Num) (OfP : Fp → Fp) (Sl O : UInt64 → Fp) (Sm : Fp → Fp → Bool)
    (ht : ∀ k, TblOK Try.prog (tblBy k FF RF Pm RL Z B SB Wd WR OfP Sl O Sm)) (H : BytesIs FF RF Pm RL Z B SB Wd WR OfP Sl O Sm) :
    Computes A Try.prog 3 (fun _ : Bs × Bs × UInt64 × Unit => true) := by
  refine computes_of_runT0 Try.func3 (by kernel_rfl) (by kernel_rfl) 8 ?_
  rintro ⟨g0, g1, _, _⟩ ⟨⟨b⟩, ⟨w⟩, n, ⟨⟩⟩ W ⟨k0, k1, _, _⟩
  have k0 : HasBytes W b g0 := k0
  have k1 : HasBytes W w g1 := k1
  by_cases hb : b.length ≤ 200
  · by_cases hw : w.length ≤ 128
    · have hl : (partB b 0 b.length).length = b.length := by rw [partB_all]
      have q1 := H.h1 (partB b 0 b.length)
      rw [hl] at q1
      have q2 := H.h2 (partB b 0 b.length)
      have q3 := H.h3 (partB b 0 b.length)
      have q4 := H.h4 (partB w 0 w.length)
      have q5 := H.h5 (partB w 0 w.length)
      have q6 := H.h6 n
      obtain ⟨bl, hbl⟩ : ∃ bl, bl = partB b 0 b.length := ⟨_, rfl⟩
      obtain ⟨wl, hwl⟩ : ∃ wl, wl = partB w 0 w.length := ⟨_, rfl⟩
      rw [← hbl] at q1 q2 q3
      rw [← hwl] at q4 q5
      have hwn : wl.length < 1048576 := by rw [hwl]; exact shortB hw
      have t1 : decide ((b.length : Int) > 200) = false := decide_eq_false (by omega)
      have t2 : decide ((w.length : Int) > 128) = false := decide_eq_false (by omega)
      refine ⟨_, ht 0, ?_⟩
      cases hq : (RF bl).b with
      | true =>
        by_cases h48 : b.length = 48
        · have t3 : ((b.length : Int) == 48) = true := by rw [h48]; rfl
          cases hr : RL (RF bl).a Pm with
          | true =>
            have ok : (FF bl).b = true := by rw [q1, hr, decide_eq_true h48]; rfl
            refine ⟨saysY [(17, false)], true, [Sm (O n) (Sl n) = true, Sm (Wd wl) (OfP (plOf (WR wl Pm)).x) = true, (WR wl Pm).val < pN, wl.length < 1048576, ReadB W g1 w, AllU8 w, wl.length < 1048576, ReadB W g1 w, AllU8 w, SB (listB (B (FF bl).a).f) bl = true, ReadB W g0 b, AllU8 b, RL (RF bl).a Pm = true, ((b.length : Int) == 48) = true, (RF bl).b = true, ReadB W g0 b, AllU8 b, (FF bl).b = true, ReadB W g0 b, AllU8 b, decide ((w.length : Int) > 128) = false, decide ((b.length : Int) > 200) = false, true = true], ?_,
              ⟨q6, q5, q4, hwn, readB k1, allU8 w, hwn, readB k1, allU8 w, q3 ok, readB k0, allU8 b, hr, t3, hq, readB k0, allU8 b, ok, readB k0, allU8 b, t2, t1, rfl, trivial⟩, rfl⟩
            subst hbl hwl
            kernel_rfl
          | false =>
            have ok : (FF bl).b = false := by rw [q1, hr, Bool.and_false]
            refine ⟨saysY [(17, false), (28, false), (40, false)], true, [Sm (O n) (Sl n) = true, Sm (Wd wl) (OfP (plOf (WR wl Pm)).x) = true, (WR wl Pm).val < pN, wl.length < 1048576, ReadB W g1 w, AllU8 w, wl.length < 1048576, ReadB W g1 w, AllU8 w, Z (FF bl).a = true, RL (RF bl).a Pm = false, ((b.length : Int) == 48) = true, (RF bl).b = true, ReadB W g0 b, AllU8 b, (FF bl).b = false, ReadB W g0 b, AllU8 b, decide ((w.length : Int) > 128) = false, decide ((b.length : Int) > 200) = false, true = true], ?_,
              ⟨q6, q5, q4, hwn, readB k1, allU8 w, hwn, readB k1, allU8 w, q2 ok, hr, t3, hq, readB k0, allU8 b, ok, readB k0, allU8 b, t2, t1, rfl, trivial⟩, rfl⟩
            subst hbl hwl
            kernel_rfl
        · have t3 : ((b.length : Int) == 48) = false := beq_eq_false_iff_ne.2 (by omega)
          have ok : (FF bl).b = false := by rw [q1, decide_eq_false h48, Bool.false_and]
          refine ⟨saysY [(17, false), (28, false), (36, false)], true, [Sm (O n) (Sl n) = true, Sm (Wd wl) (OfP (plOf (WR wl Pm)).x) = true, (WR wl Pm).val < pN, wl.length < 1048576, ReadB W g1 w, AllU8 w, wl.length < 1048576, ReadB W g1 w, AllU8 w, Z (FF bl).a = true, ((b.length : Int) == 48) = false, (RF bl).b = true, ReadB W g0 b, AllU8 b, (FF bl).b = false, ReadB W g0 b, AllU8 b, decide ((w.length : Int) > 128) = false, decide ((b.length : Int) > 200) = false, true = true], ?_,
            ⟨q6, q5, q4, hwn, readB k1, allU8 w, hwn, readB k1, allU8 w, q2 ok, t3, hq, readB k0, allU8 b, ok, readB k0, allU8 b, t2, t1, rfl, trivial⟩, rfl⟩
          subst hbl hwl
          kernel_rfl
      | false =>
        by_cases h48 : b.length = 48
        · have t3 : ((b.length : Int) == 48) = true := by rw [h48]; rfl
          cases hr : RL (RF bl).a Pm with
          | true =>
            have ok : (FF bl).b = true := by rw [q1, hr, decide_eq_true h48]; rfl
            refine ⟨saysY [(17, false), (33, false)], true, [Sm (O n) (Sl n) = true, Sm (Wd wl) (OfP (plOf (WR wl Pm)).x) = true, (WR wl Pm).val < pN, wl.length < 1048576, ReadB W g1 w, AllU8 w, wl.length < 1048576, ReadB W g1 w, AllU8 w, SB (listB (B (FF bl).a).f) bl = true, ReadB W g0 b, AllU8 b, RL (RF bl).a Pm = true, ((b.length : Int) == 48) = true, (RF bl).b = false, ReadB W g0 b, AllU8 b, (FF bl).b = true, ReadB W g0 b, AllU8 b, decide ((w.length : Int) > 128) = false, decide ((b.length : Int) > 200) = false, true = true], ?_,
              ⟨q6, q5, q4, hwn, readB k1, allU8 w, hwn, readB k1, allU8 w, q3 ok, readB k0, allU8 b, hr, t3, hq, readB k0, allU8 b, ok, readB k0, allU8 b, t2, t1, rfl, trivial⟩, rfl⟩
            subst hbl hwl
            kernel_rfl
          | false =>
            have ok : (FF bl).b = false := by rw [q1, hr, Bool.and_false]
            refine ⟨saysY [(17, false), (28, false), (33, false), (40, false)], true, [Sm (O n) (Sl n) = true, Sm (Wd wl) (OfP (plOf (WR wl Pm)).x) = true, (WR wl Pm).val < pN, wl.length < 1048576, ReadB W g1 w, AllU8 w, wl.length < 1048576, ReadB W g1 w, AllU8 w, Z (FF bl).a = true, RL (RF bl).a Pm = false, ((b.length : Int) == 48) = true, (RF bl).b = false, ReadB W g0 b, AllU8 b, (FF bl).b = false, ReadB W g0 b, AllU8 b, decide ((w.length : Int) > 128) = false, decide ((b.length : Int) > 200) = false, true = true], ?_,
              ⟨q6, q5, q4, hwn, readB k1, allU8 w, hwn, readB k1, allU8 w, q2 ok, hr, t3, hq, readB k0, allU8 b, ok, readB k0, allU8 b, t2, t1, rfl, trivial⟩, rfl⟩
            subst hbl hwl
            kernel_rfl
        · have t3 : ((b.length : Int) == 48) = false := beq_eq_false_iff_ne.2 (by omega)
          have ok : (FF bl).b = false := by rw [q1, decide_eq_false h48, Bool.false_and]
          refine ⟨saysY [(17, false), (28, false), (33, false), (36, false)], true, [Sm (O n) (Sl n) = true, Sm (Wd wl) (OfP (plOf (WR wl Pm)).x) = true, (WR wl Pm).val < pN, wl.length < 1048576, ReadB W g1 w, AllU8 w, wl.length < 1048576, ReadB W g1 w, AllU8 w, Z (FF bl).a = true, ((b.length : Int) == 48) = false, (RF bl).b = false, ReadB W g0 b, AllU8 b, (FF bl).b = false, ReadB W g0 b, AllU8 b, decide ((w.length : Int) > 128) = false, decide ((b.length : Int) > 200) = false, true = true], ?_,
            ⟨q6, q5, q4, hwn, readB k1, allU8 w, hwn, readB k1, allU8 w, q2 ok, t3, hq, readB k0, allU8 b, ok, readB k0, allU8 b, t2, t1, rfl, trivial⟩, rfl⟩
          subst hbl hwl
          kernel_rfl
    · exact ⟨_, ht 1, saysY [(17, false)], true, [decide ((w.length : Int) > 128) = true, decide ((b.length : Int) > 200) = false, true = true], by kernel_rfl, ⟨decide_eq_true (by omega), decide_eq_false (by omega), rfl, trivial⟩, rfl⟩
  · exact ⟨_, ht 0, saysY [], true, [decide ((b.length : Int) > 200) = true, true = true], by kernel_rfl, ⟨decide_eq_true (by omega), rfl, trivial⟩, rfl⟩
end Go.Proofs.Ytbdbmcdcjejffaa
