/- The scalar field: bytes. -/
import Derived.Test.YtaloefkkllebeaaFc1
import Derived.Test.YtaloefkkllebeaaLj1
set_option linter.unusedVariables false
set_option linter.unusedSimpArgs false
set_option linter.unusedSectionVars false
namespace Go.Proofs.Ytaloefkkllebeaa
open Go Go.Sh
section
variable (k : Nat) (FF : List UInt8 → T2 Fq Bool) (RF : List UInt8 → T2 Num Bool) (Rm : Num) (RL : Num → Num → Bool) (Z : Fq → Bool) (B : Fq → R8 32) (SB : List UInt8 → List UInt8 → Bool) (Wd : List UInt8 → Fq) (WR : List UInt8 → Num → Num) (O : UInt64 → Fq) (Sm : Fq → Num → Bool)
noncomputable def tblQy : List (Row A) :=
  [rowOf A 32 (fun _ : Unit => true), light4Row k, rowOf A 34 (fun x : Bs × Unit => FF x.1.l), rowOf A 28 (fun x : Bs × Unit => RF x.1.l), rowOf A 36 (fun _ : Unit => Rm),
    rowOf A 35 (fun x : Num × Num × Unit => RL x.1 x.2.1), rowOf A 37 (fun x : Fq × Unit => Z x.1), rowOf A 38 (fun x : Fq × Unit => B x.1), rowOf A 31 (fun x : Bs × Bs × Unit => SB x.1.l x.2.1.l),
    rowOf A 40 (fun x : Bt × Unit => Wd x.1.l), rowOf A 41 (fun x : Bt × Num × Unit => WR x.1.l x.2.1),
    rowOf A 42 (fun x : UInt64 × Unit => O x.1), rowOf A 39 (fun x : Fq × Num × Unit => Sm x.1 x.2.1)]
structure BytesIs4 : Prop where
  h1 : ∀ l, (FF l).b = (decide (l.length = 32) && RL (RF l).a Rm)
  h2 : ∀ l, (FF l).b = false → Z (FF l).a = true
  h3 : ∀ l, (FF l).b = true → SB (list32 (B (FF l).a).f) l = true
  h5 : ∀ l, Sm (Wd l) (WR l Rm) = true
  h6 : ∀ n, Sm (O n) (numO (n, UInt64.ofNat 0, UInt64.ofNat 0, UInt64.ofNat 0, UInt64.ofNat 0, UInt64.ofNat 0)) = true
end
theorem frBytesLaw_of (FF : List UInt8 → T2 Fq Bool) (RF : List UInt8 → T2 Num Bool) (Rm : Num) (RL : Num → Num → Bool) (Z : Fq → Bool) (B : Fq → R8 32) (SB : List UInt8 → List UInt8 → Bool) (Wd : List UInt8 → Fq) (WR : List UInt8 → Num → Num) (O : UInt64 → Fq) (Sm : Fq → Num → Bool)
    (ht : ∀ k, TblOK Try.prog (tblQy k FF RF Rm RL Z B SB Wd WR O Sm)) (H : BytesIs4 FF RF Rm RL Z B SB Wd WR O Sm) :
    Computes A Try.prog 9 (fun _ : Bs × Bs × UInt64 × Unit => true) := by
  refine computes_of_runT0 Try.func9 (by kernel_rfl) (by kernel_rfl) 8 ?_
  rintro ⟨g0, g1, _, _⟩ ⟨⟨b⟩, ⟨w⟩, n, ⟨⟩⟩ W ⟨k0, k1, _, _⟩
  have k0 : HasBytes W b g0 := k0
  have k1 : HasBytes W w g1 := k1
  by_cases hb : b.length ≤ 200
  · by_cases hw : w.length ≤ 128
    · have hl : (partB b 0 b.length).length = b.length := by rw [partB_all]
      have q1 := H.h1 (partB b 0 b.length)
      rw [hl] at q1
      have q2 := H.h2 (partB b 0 b.length)
      have q3 := H.h3 (partB b 0 b.length)
      have q5 := H.h5 (partB w 0 w.length)
      have q6 := H.h6 n
      obtain ⟨bl, hbl⟩ : ∃ bl, bl = partB b 0 b.length := ⟨_, rfl⟩
      obtain ⟨wl, hwl⟩ : ∃ wl, wl = partB w 0 w.length := ⟨_, rfl⟩
      rw [← hbl] at q1 q2 q3
      rw [← hwl] at q5
      have hwn : wl.length < 1048576 := by rw [hwl]; exact shortB hw
      have t1 : decide ((b.length : Int) > 200) = false := decide_eq_false (by omega)
      have t2 : decide ((w.length : Int) > 128) = false := decide_eq_false (by omega)
      refine ⟨_, ht 0, ?_⟩
      cases hq : (RF bl).b with
      | true =>
        by_cases h32 : b.length = 32
        · have t3 : ((b.length : Int) == 32) = true := by rw [h32]; rfl
          cases hr : RL (RF bl).a Rm with
          | true =>
            have ok : (FF bl).b = true := by rw [q1, hr, decide_eq_true h32]; rfl
            refine ⟨saysY [(17, false)], true, [Sm (O n) (numO (n, UInt64.ofNat 0, UInt64.ofNat 0, UInt64.ofNat 0, UInt64.ofNat 0, UInt64.ofNat 0)) = true, Sm (Wd wl) (WR wl Rm) = true, wl.length < 1048576, ReadB W g1 w, AllU8 w, wl.length < 1048576, ReadB W g1 w, AllU8 w, SB (list32 (B (FF bl).a).f) bl = true, ReadB W g0 b, AllU8 b, RL (RF bl).a Rm = true, ((b.length : Int) == 32) = true, (RF bl).b = true, ReadB W g0 b, AllU8 b, (FF bl).b = true, ReadB W g0 b, AllU8 b, decide ((w.length : Int) > 128) = false, decide ((b.length : Int) > 200) = false, true = true], ?_,
              ⟨q6, q5, hwn, readB k1, allU8 w, hwn, readB k1, allU8 w, q3 ok, readB k0, allU8 b, hr, t3, hq, readB k0, allU8 b, ok, readB k0, allU8 b, t2, t1, rfl, trivial⟩, rfl⟩
            subst hbl hwl
            kernel_rfl
          | false =>
            have ok : (FF bl).b = false := by rw [q1, hr, Bool.and_false]
            refine ⟨saysY [(17, false), (28, false), (40, false)], true, [Sm (O n) (numO (n, UInt64.ofNat 0, UInt64.ofNat 0, UInt64.ofNat 0, UInt64.ofNat 0, UInt64.ofNat 0)) = true, Sm (Wd wl) (WR wl Rm) = true, wl.length < 1048576, ReadB W g1 w, AllU8 w, wl.length < 1048576, ReadB W g1 w, AllU8 w, Z (FF bl).a = true, RL (RF bl).a Rm = false, ((b.length : Int) == 32) = true, (RF bl).b = true, ReadB W g0 b, AllU8 b, (FF bl).b = false, ReadB W g0 b, AllU8 b, decide ((w.length : Int) > 128) = false, decide ((b.length : Int) > 200) = false, true = true], ?_,
              ⟨q6, q5, hwn, readB k1, allU8 w, hwn, readB k1, allU8 w, q2 ok, hr, t3, hq, readB k0, allU8 b, ok, readB k0, allU8 b, t2, t1, rfl, trivial⟩, rfl⟩
            subst hbl hwl
            kernel_rfl
        · have t3 : ((b.length : Int) == 32) = false := beq_eq_false_iff_ne.2 (by omega)
          have ok : (FF bl).b = false := by rw [q1, decide_eq_false h32, Bool.false_and]
          refine ⟨saysY [(17, false), (28, false), (36, false)], true, [Sm (O n) (numO (n, UInt64.ofNat 0, UInt64.ofNat 0, UInt64.ofNat 0, UInt64.ofNat 0, UInt64.ofNat 0)) = true, Sm (Wd wl) (WR wl Rm) = true, wl.length < 1048576, ReadB W g1 w, AllU8 w, wl.length < 1048576, ReadB W g1 w, AllU8 w, Z (FF bl).a = true, ((b.length : Int) == 32) = false, (RF bl).b = true, ReadB W g0 b, AllU8 b, (FF bl).b = false, ReadB W g0 b, AllU8 b, decide ((w.length : Int) > 128) = false, decide ((b.length : Int) > 200) = false, true = true], ?_,
            ⟨q6, q5, hwn, readB k1, allU8 w, hwn, readB k1, allU8 w, q2 ok, t3, hq, readB k0, allU8 b, ok, readB k0, allU8 b, t2, t1, rfl, trivial⟩, rfl⟩
          subst hbl hwl
          kernel_rfl
      | false =>
        by_cases h32 : b.length = 32
        · have t3 : ((b.length : Int) == 32) = true := by rw [h32]; rfl
          cases hr : RL (RF bl).a Rm with
          | true =>
            have ok : (FF bl).b = true := by rw [q1, hr, decide_eq_true h32]; rfl
            refine ⟨saysY [(17, false), (33, false)], true, [Sm (O n) (numO (n, UInt64.ofNat 0, UInt64.ofNat 0, UInt64.ofNat 0, UInt64.ofNat 0, UInt64.ofNat 0)) = true, Sm (Wd wl) (WR wl Rm) = true, wl.length < 1048576, ReadB W g1 w, AllU8 w, wl.length < 1048576, ReadB W g1 w, AllU8 w, SB (list32 (B (FF bl).a).f) bl = true, ReadB W g0 b, AllU8 b, RL (RF bl).a Rm = true, ((b.length : Int) == 32) = true, (RF bl).b = false, ReadB W g0 b, AllU8 b, (FF bl).b = true, ReadB W g0 b, AllU8 b, decide ((w.length : Int) > 128) = false, decide ((b.length : Int) > 200) = false, true = true], ?_,
              ⟨q6, q5, hwn, readB k1, allU8 w, hwn, readB k1, allU8 w, q3 ok, readB k0, allU8 b, hr, t3, hq, readB k0, allU8 b, ok, readB k0, allU8 b, t2, t1, rfl, trivial⟩, rfl⟩
            subst hbl hwl
            kernel_rfl
          | false =>
            have ok : (FF bl).b = false := by rw [q1, hr, Bool.and_false]
            refine ⟨saysY [(17, false), (28, false), (33, false), (40, false)], true, [Sm (O n) (numO (n, UInt64.ofNat 0, UInt64.ofNat 0, UInt64.ofNat 0, UInt64.ofNat 0, UInt64.ofNat 0)) = true, Sm (Wd wl) (WR wl Rm) = true, wl.length < 1048576, ReadB W g1 w, AllU8 w, wl.length < 1048576, ReadB W g1 w, AllU8 w, Z (FF bl).a = true, RL (RF bl).a Rm = false, ((b.length : Int) == 32) = true, (RF bl).b = false, ReadB W g0 b, AllU8 b, (FF bl).b = false, ReadB W g0 b, AllU8 b, decide ((w.length : Int) > 128) = false, decide ((b.length : Int) > 200) = false, true = true], ?_,
              ⟨q6, q5, hwn, readB k1, allU8 w, hwn, readB k1, allU8 w, q2 ok, hr, t3, hq, readB k0, allU8 b, ok, readB k0, allU8 b, t2, t1, rfl, trivial⟩, rfl⟩
            subst hbl hwl
            kernel_rfl
        · have t3 : ((b.length : Int) == 32) = false := beq_eq_false_iff_ne.2 (by omega)
          have ok : (FF bl).b = false := by rw [q1, decide_eq_false h32, Bool.false_and]
          refine ⟨saysY [(17, false), (28, false), (33, false), (36, false)], true, [Sm (O n) (numO (n, UInt64.ofNat 0, UInt64.ofNat 0, UInt64.ofNat 0, UInt64.ofNat 0, UInt64.ofNat 0)) = true, Sm (Wd wl) (WR wl Rm) = true, wl.length < 1048576, ReadB W g1 w, AllU8 w, wl.length < 1048576, ReadB W g1 w, AllU8 w, Z (FF bl).a = true, ((b.length : Int) == 32) = false, (RF bl).b = false, ReadB W g0 b, AllU8 b, (FF bl).b = false, ReadB W g0 b, AllU8 b, decide ((w.length : Int) > 128) = false, decide ((b.length : Int) > 200) = false, true = true], ?_,
            ⟨q6, q5, hwn, readB k1, allU8 w, hwn, readB k1, allU8 w, q2 ok, t3, hq, readB k0, allU8 b, ok, readB k0, allU8 b, t2, t1, rfl, trivial⟩, rfl⟩
          subst hbl hwl
          kernel_rfl
    · exact ⟨_, ht 1, saysY [(17, false)], true, [decide ((w.length : Int) > 128) = true, decide ((b.length : Int) > 200) = false, true = true], by kernel_rfl, ⟨decide_eq_true (by omega), decide_eq_false (by omega), rfl, trivial⟩, rfl⟩
  · exact ⟨_, ht 0, saysY [], true, [decide ((b.length : Int) > 200) = true, true = true], by kernel_rfl, ⟨decide_eq_true (by omega), rfl, trivial⟩, rfl⟩
theorem tblQy_ok (k : Nat) : TblOK Try.prog (tblQy k fromQ fromB rNum (fun a b => decide (a < b)) (fun a => decide (a = 0)) (fun a => bytesQ a.val) (fun a b => a == b) wideQ (fun l m => rwideN l m l.length) fqOf (fun a n => decide (fqNum a = n))) :=
  .cons known4_ok.row (.cons (light4Row_ok k) (.cons frFrom_ok.row (.cons refFrom_ok.row (.cons refR_ok.row (.cons refLess_ok.row (.cons frIsZero_ok.row (.cons frBytes_ok.row (.cons sameBytes_ok.row (.cons frWide_ok.row (.cons refWide_ok.row (.cons frOf_ok.row (.cons lawSame_ok.row (.nil _)))))))))))))
theorem frBytesLaw_ok : Computes A Try.prog 9 (fun _ : Bs × Bs × UInt64 × Unit => true) := by
  refine frBytesLaw_of _ _ _ _ _ _ _ _ _ _ _ tblQy_ok ⟨fun l => ?_, fun l h => ?_, fun l h => ?_, fun l => ?_, fun n => ?_⟩
  · show (fromQ l).b = (decide (l.length = 32) && decide ((fromB l).a < rNum))
    by_cases h : l.length = 32
    · have h2 : (fromB l).a.val = numB l := fromB_val (by omega)
      have h3 : (decide ((fromB l).a < rNum) : Bool) = decide (numB l < rN) := by
        show decide ((fromB l).a.val < rN) = _
        rw [h2]
      have hd : decide (l.length = 32) = true := decide_eq_true h
      rw [hd, Bool.true_and, h3]
      unfold fromQ
      by_cases h4 : numB l < rN
      · rw [if_pos ⟨h, h4⟩, decide_eq_true h4]
      · rw [if_neg (fun e => h4 e.2), decide_eq_false h4]
    · have hd : decide (l.length = 32) = false := decide_eq_false h
      rw [hd, Bool.false_and]
      unfold fromQ
      rw [if_neg (fun e => h e.1)]
  · unfold fromQ at h ⊢
    split at h
    · cases h
    · rename_i hn
      rw [if_neg hn]
      exact decide_eq_true rfl
  · unfold fromQ at h ⊢
    split at h
    · rename_i hn
      rw [if_pos hn]
      have hv : (fqN (numB l)).val = numB l := Nat.mod_eq_of_lt hn.2
      show (list32 (bytesQ (fqN (numB l)).val).f == l) = true
      rw [hv]
      have hlt := numB_cons_le l
      rw [hn.1] at hlt
      have he : list32 (bytesQ (numB l)).f = l := numB_inj 32 (by simp [list32]) hn.1 (numB_bytesQ hlt)
      rw [he]
      exact beq_self_eq_true l
    · cases h
  · refine decide_eq_true (fqNum_fqN _ _ ?_)
    rw [rwideN_all l rNum rNum_ne, rNum_val]
  · refine decide_eq_true (fqNum_fqN _ _ ?_)
    show val6 (n, UInt64.ofNat 0, UInt64.ofNat 0, UInt64.ofNat 0, UInt64.ofNat 0, UInt64.ofNat 0) = _
    have h1 : n.toNat < rN := Nat.lt_trans n.toNat_lt (by rw [rN_val]; decide)
    rw [Nat.mod_eq_of_lt h1]
    simp [val6]
end Go.Proofs.Ytaloefkkllebeaa
