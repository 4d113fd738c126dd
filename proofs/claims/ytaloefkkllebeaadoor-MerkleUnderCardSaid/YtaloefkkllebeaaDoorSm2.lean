/- Trees: the reference's Branch, of literal depths: its contracts. -/
import Derived.Test.YtaloefkkllebeaaDoorSm1
set_option linter.unusedVariables false
set_option linter.unusedSimpArgs false
set_option linter.unusedSectionVars false
namespace Go.Sh
def mS (l : List (R8 32)) (K : Nat) : Nat := match decide ((l.length : Int) > ((2 ^ K : Nat) : Int)) with | true => 2 ^ K - 0 | false => l.length
def flatR (rows : List (Nat → UInt8)) : List UInt8 := rows.flatMap fun r => (List.range 32).map r
end Go.Sh
namespace Go.Proofs.YtaloefkkllebeaaDoor
open Go Go.Sh
def rbV (T : TrT) (l : List (R8 32)) (ix : UInt64) (K : Nat) : List (R8 32) := cutR 32 (pickN 0 (flatR (rbR T l ix K ⟨0, mS l K, 0⟩ []).2)) K
theorem rbR_c (T : TrT) (l : List (R8 32)) (ix : UInt64) : ∀ (d : Nat) (s s' : Sg) (rows : List (Nat → UInt8)), s.o = s'.o → s.n = s'.n → (rbR T l ix d s rows).2 = (rbR T l ix d s' rows).2
  | 0, _, _, _, _, _ => rfl
  | d + 1, ⟨o, n, c⟩, ⟨o', n', c'⟩, rows, h1, h2 => by
    obtain rfl : o = o' := h1
    obtain rfl : n = n' := h2
    have e : segL l (sibS (bitQ ix d) d ⟨o, n, c⟩) = segL l (sibS (bitQ ix d) d ⟨o, n, c'⟩) := by cases bitQ ix d <;> rfl
    show (rbR T l ix d (stepS (bitQ ix d) d ⟨o, n, c⟩) ((T (segL l (sibS (bitQ ix d) d ⟨o, n, c⟩)) d).f :: rows)).2 = _
    rw [e]
    refine rbR_c T l ix d _ _ _ ?_ ?_ <;> cases bitQ ix d <;> rfl
section
variable {T : TrT} (ht : TblOK Tryd.prog (tblRB T))
include ht
theorem refBr_0 : Computes A Tryd.prog 58 (fun x : Hs Mk × Rt 32 × Li ((0 : Nat) : Int) × UInt64 × Unit => (⟨rbV T x.2.1.l x.2.2.2.1 0⟩ : Rw 32)) := by
  refine computes_of_runW ht (ITblOK.nil _) Tryd.func58 (by kernel_rfl) (by kernel_rfl) 6 ?_
  rintro ⟨a, g, _⟩ ⟨⟨m⟩, ⟨l⟩, ⟨⟩, ix, ⟨⟩⟩ W ⟨ha, ⟨hg, hn⟩, _⟩
  have hG : HasRows W l g := hg
  have hN : l.length < 1048576 := hn
  have rt : ReadT W.cell? a 0 72 := by
    intro b hb j hj
    obtain rfl := Option.some.inj hb
    exact ha (0 + j) (show 0 + j < 72 by omega)
  have gc := hG.1
  show ∃ orc lp y vc, _ ∧ _ ∧ y = (⟨cutR 32 (pickN 0 (flatR (rbR T l ix 0 ⟨0, mS l 0, 0⟩ []).2)) 0⟩ : Rw 32) ∧ _
  cases hl : decide ((l.length : Int) > 1) with
  | true =>
    have h1 := of_decide_eq_true hl
    have em : mS l 0 = 1 - 0 := by unfold mS; rw [show decide ((l.length : Int) > ((2 ^ 0 : Nat) : Int)) = true from hl]
    have hs : InS l ⟨0, 1 - 0, g.c - 0⟩ := ⟨by show 1 - 0 ≤ g.c - 0; omega, by show 0 + (1 - 0) * 32 ≤ _; omega⟩
    have hgo : SoundFor Tryd.prog W.cell? [] (.loop (loopNo Tryd.f58 6)) (rbS a g l ix 0 (-1) ⟨0, 1 - 0, g.c - 0⟩ []) (.exit 0) (rbS a g l ix 0 (-1) (rbR T l ix 0 ⟨0, 1 - 0, g.c - 0⟩ []).1 (rbR T l ix 0 ⟨0, 1 - 0, g.c - 0⟩ []).2) := fun c e1 e2 e3 e4 => (rbG_0 T ht a rt g hG hN ix e1 e2 e3 e4 _ hs).sound
    refine ⟨saysY [], lps [(6, rbS a g l ix 0 (-1) ⟨0, 1 - 0, g.c - 0⟩ [], .exit 0, rbS a g l ix 0 (-1) (rbR T l ix 0 ⟨0, 1 - 0, g.c - 0⟩ []).1 (rbR T l ix 0 ⟨0, 1 - 0, g.c - 0⟩ []).2)], ⟨cutR 32 (pickN 0 (flatR (rbR T l ix 0 ⟨0, 1 - 0, g.c - 0⟩ []).2)) 0⟩,
      [ToldIs (rbS a g l ix 0 (-1) ⟨0, 1 - 0, g.c - 0⟩ []), (0 : Int) ≤ 1 ∧ (1 : Int) ≤ (g.c : Int), decide ((l.length : Int) > 1) = true], by kernel_rfl, ⟨toldIs _, by omega, hl, trivial⟩, ?_, fun body hb => ?_⟩
    · rw [em, rbR_c T l ix 0 ⟨0, 1 - 0, g.c - 0⟩ ⟨0, 1 - 0, 0⟩ [] rfl rfl]
    · obtain rfl := Option.some.inj hb
      exact LoopsFor.cons (by kernel_rfl) hgo LoopsFor.nil
  | false =>
    have em : mS l 0 = l.length := by unfold mS; rw [show decide ((l.length : Int) > ((2 ^ 0 : Nat) : Int)) = false from hl]
    have hs : InS l ⟨0, l.length, g.c⟩ := ⟨gc, by show 0 + l.length * 32 ≤ _; omega⟩
    have hgo : SoundFor Tryd.prog W.cell? [] (.loop (loopNo Tryd.f58 6)) (rbS a g l ix 0 (-1) ⟨0, l.length, g.c⟩ []) (.exit 0) (rbS a g l ix 0 (-1) (rbR T l ix 0 ⟨0, l.length, g.c⟩ []).1 (rbR T l ix 0 ⟨0, l.length, g.c⟩ []).2) := fun c e1 e2 e3 e4 => (rbG_0 T ht a rt g hG hN ix e1 e2 e3 e4 _ hs).sound
    refine ⟨saysY [(22, false), (23, false)], lps [(6, rbS a g l ix 0 (-1) ⟨0, l.length, g.c⟩ [], .exit 0, rbS a g l ix 0 (-1) (rbR T l ix 0 ⟨0, l.length, g.c⟩ []).1 (rbR T l ix 0 ⟨0, l.length, g.c⟩ []).2)], ⟨cutR 32 (pickN 0 (flatR (rbR T l ix 0 ⟨0, l.length, g.c⟩ []).2)) 0⟩,
      [ToldIs (rbS a g l ix 0 (-1) ⟨0, l.length, g.c⟩ []), decide ((l.length : Int) > 1) = false], by kernel_rfl, ⟨toldIs _, hl, trivial⟩, ?_, fun body hb => ?_⟩
    · rw [em, rbR_c T l ix 0 ⟨0, l.length, g.c⟩ ⟨0, l.length, 0⟩ [] rfl rfl]
    · obtain rfl := Option.some.inj hb
      exact LoopsFor.cons (by kernel_rfl) hgo LoopsFor.nil
theorem refBr_1 : Computes A Tryd.prog 58 (fun x : Hs Mk × Rt 32 × Li ((1 : Nat) : Int) × UInt64 × Unit => (⟨rbV T x.2.1.l x.2.2.2.1 1⟩ : Rw 32)) := by
  refine computes_of_runW ht (ITblOK.nil _) Tryd.func58 (by kernel_rfl) (by kernel_rfl) 6 ?_
  rintro ⟨a, g, _⟩ ⟨⟨m⟩, ⟨l⟩, ⟨⟩, ix, ⟨⟩⟩ W ⟨ha, ⟨hg, hn⟩, _⟩
  have hG : HasRows W l g := hg
  have hN : l.length < 1048576 := hn
  have rt : ReadT W.cell? a 0 72 := by
    intro b hb j hj
    obtain rfl := Option.some.inj hb
    exact ha (0 + j) (show 0 + j < 72 by omega)
  have gc := hG.1
  show ∃ orc lp y vc, _ ∧ _ ∧ y = (⟨cutR 32 (pickN 0 (flatR (rbR T l ix 1 ⟨0, mS l 1, 0⟩ []).2)) 1⟩ : Rw 32) ∧ _
  cases hl : decide ((l.length : Int) > 2) with
  | true =>
    have h1 := of_decide_eq_true hl
    have em : mS l 1 = 2 - 0 := by unfold mS; rw [show decide ((l.length : Int) > ((2 ^ 1 : Nat) : Int)) = true from hl]
    have hs : InS l ⟨0, 2 - 0, g.c - 0⟩ := ⟨by show 2 - 0 ≤ g.c - 0; omega, by show 0 + (2 - 0) * 32 ≤ _; omega⟩
    have hgo : SoundFor Tryd.prog W.cell? [] (.loop (loopNo Tryd.f58 6)) (rbS a g l ix 1 (0) ⟨0, 2 - 0, g.c - 0⟩ []) (.exit 0) (rbS a g l ix 1 (-1) (rbR T l ix 1 ⟨0, 2 - 0, g.c - 0⟩ []).1 (rbR T l ix 1 ⟨0, 2 - 0, g.c - 0⟩ []).2) := fun c e1 e2 e3 e4 => (rbG_1 T ht a rt g hG hN ix e1 e2 e3 e4 _ hs).sound
    refine ⟨saysY [], lps [(6, rbS a g l ix 1 (0) ⟨0, 2 - 0, g.c - 0⟩ [], .exit 0, rbS a g l ix 1 (-1) (rbR T l ix 1 ⟨0, 2 - 0, g.c - 0⟩ []).1 (rbR T l ix 1 ⟨0, 2 - 0, g.c - 0⟩ []).2)], ⟨cutR 32 (pickN 0 (flatR (rbR T l ix 1 ⟨0, 2 - 0, g.c - 0⟩ []).2)) 1⟩,
      [ToldIs (rbS a g l ix 1 (0) ⟨0, 2 - 0, g.c - 0⟩ []), (0 : Int) ≤ 2 ∧ (2 : Int) ≤ (g.c : Int), decide ((l.length : Int) > 2) = true], by kernel_rfl, ⟨toldIs _, by omega, hl, trivial⟩, ?_, fun body hb => ?_⟩
    · rw [em, rbR_c T l ix 1 ⟨0, 2 - 0, g.c - 0⟩ ⟨0, 2 - 0, 0⟩ [] rfl rfl]
    · obtain rfl := Option.some.inj hb
      exact LoopsFor.cons (by kernel_rfl) hgo LoopsFor.nil
  | false =>
    have em : mS l 1 = l.length := by unfold mS; rw [show decide ((l.length : Int) > ((2 ^ 1 : Nat) : Int)) = false from hl]
    have hs : InS l ⟨0, l.length, g.c⟩ := ⟨gc, by show 0 + l.length * 32 ≤ _; omega⟩
    have hgo : SoundFor Tryd.prog W.cell? [] (.loop (loopNo Tryd.f58 6)) (rbS a g l ix 1 (0) ⟨0, l.length, g.c⟩ []) (.exit 0) (rbS a g l ix 1 (-1) (rbR T l ix 1 ⟨0, l.length, g.c⟩ []).1 (rbR T l ix 1 ⟨0, l.length, g.c⟩ []).2) := fun c e1 e2 e3 e4 => (rbG_1 T ht a rt g hG hN ix e1 e2 e3 e4 _ hs).sound
    refine ⟨saysY [(22, false), (23, false)], lps [(6, rbS a g l ix 1 (0) ⟨0, l.length, g.c⟩ [], .exit 0, rbS a g l ix 1 (-1) (rbR T l ix 1 ⟨0, l.length, g.c⟩ []).1 (rbR T l ix 1 ⟨0, l.length, g.c⟩ []).2)], ⟨cutR 32 (pickN 0 (flatR (rbR T l ix 1 ⟨0, l.length, g.c⟩ []).2)) 1⟩,
      [ToldIs (rbS a g l ix 1 (0) ⟨0, l.length, g.c⟩ []), decide ((l.length : Int) > 2) = false], by kernel_rfl, ⟨toldIs _, hl, trivial⟩, ?_, fun body hb => ?_⟩
    · rw [em, rbR_c T l ix 1 ⟨0, l.length, g.c⟩ ⟨0, l.length, 0⟩ [] rfl rfl]
    · obtain rfl := Option.some.inj hb
      exact LoopsFor.cons (by kernel_rfl) hgo LoopsFor.nil
theorem refBr_2 : Computes A Tryd.prog 58 (fun x : Hs Mk × Rt 32 × Li ((2 : Nat) : Int) × UInt64 × Unit => (⟨rbV T x.2.1.l x.2.2.2.1 2⟩ : Rw 32)) := by
  refine computes_of_runW ht (ITblOK.nil _) Tryd.func58 (by kernel_rfl) (by kernel_rfl) 6 ?_
  rintro ⟨a, g, _⟩ ⟨⟨m⟩, ⟨l⟩, ⟨⟩, ix, ⟨⟩⟩ W ⟨ha, ⟨hg, hn⟩, _⟩
  have hG : HasRows W l g := hg
  have hN : l.length < 1048576 := hn
  have rt : ReadT W.cell? a 0 72 := by
    intro b hb j hj
    obtain rfl := Option.some.inj hb
    exact ha (0 + j) (show 0 + j < 72 by omega)
  have gc := hG.1
  show ∃ orc lp y vc, _ ∧ _ ∧ y = (⟨cutR 32 (pickN 0 (flatR (rbR T l ix 2 ⟨0, mS l 2, 0⟩ []).2)) 2⟩ : Rw 32) ∧ _
  cases hl : decide ((l.length : Int) > 4) with
  | true =>
    have h1 := of_decide_eq_true hl
    have em : mS l 2 = 4 - 0 := by unfold mS; rw [show decide ((l.length : Int) > ((2 ^ 2 : Nat) : Int)) = true from hl]
    have hs : InS l ⟨0, 4 - 0, g.c - 0⟩ := ⟨by show 4 - 0 ≤ g.c - 0; omega, by show 0 + (4 - 0) * 32 ≤ _; omega⟩
    have hgo : SoundFor Tryd.prog W.cell? [] (.loop (loopNo Tryd.f58 6)) (rbS a g l ix 2 (1) ⟨0, 4 - 0, g.c - 0⟩ []) (.exit 0) (rbS a g l ix 2 (-1) (rbR T l ix 2 ⟨0, 4 - 0, g.c - 0⟩ []).1 (rbR T l ix 2 ⟨0, 4 - 0, g.c - 0⟩ []).2) := fun c e1 e2 e3 e4 => (rbG_2 T ht a rt g hG hN ix e1 e2 e3 e4 _ hs).sound
    refine ⟨saysY [], lps [(6, rbS a g l ix 2 (1) ⟨0, 4 - 0, g.c - 0⟩ [], .exit 0, rbS a g l ix 2 (-1) (rbR T l ix 2 ⟨0, 4 - 0, g.c - 0⟩ []).1 (rbR T l ix 2 ⟨0, 4 - 0, g.c - 0⟩ []).2)], ⟨cutR 32 (pickN 0 (flatR (rbR T l ix 2 ⟨0, 4 - 0, g.c - 0⟩ []).2)) 2⟩,
      [ToldIs (rbS a g l ix 2 (1) ⟨0, 4 - 0, g.c - 0⟩ []), (0 : Int) ≤ 4 ∧ (4 : Int) ≤ (g.c : Int), decide ((l.length : Int) > 4) = true], by kernel_rfl, ⟨toldIs _, by omega, hl, trivial⟩, ?_, fun body hb => ?_⟩
    · rw [em, rbR_c T l ix 2 ⟨0, 4 - 0, g.c - 0⟩ ⟨0, 4 - 0, 0⟩ [] rfl rfl]
    · obtain rfl := Option.some.inj hb
      exact LoopsFor.cons (by kernel_rfl) hgo LoopsFor.nil
  | false =>
    have em : mS l 2 = l.length := by unfold mS; rw [show decide ((l.length : Int) > ((2 ^ 2 : Nat) : Int)) = false from hl]
    have hs : InS l ⟨0, l.length, g.c⟩ := ⟨gc, by show 0 + l.length * 32 ≤ _; omega⟩
    have hgo : SoundFor Tryd.prog W.cell? [] (.loop (loopNo Tryd.f58 6)) (rbS a g l ix 2 (1) ⟨0, l.length, g.c⟩ []) (.exit 0) (rbS a g l ix 2 (-1) (rbR T l ix 2 ⟨0, l.length, g.c⟩ []).1 (rbR T l ix 2 ⟨0, l.length, g.c⟩ []).2) := fun c e1 e2 e3 e4 => (rbG_2 T ht a rt g hG hN ix e1 e2 e3 e4 _ hs).sound
    refine ⟨saysY [(22, false), (23, false)], lps [(6, rbS a g l ix 2 (1) ⟨0, l.length, g.c⟩ [], .exit 0, rbS a g l ix 2 (-1) (rbR T l ix 2 ⟨0, l.length, g.c⟩ []).1 (rbR T l ix 2 ⟨0, l.length, g.c⟩ []).2)], ⟨cutR 32 (pickN 0 (flatR (rbR T l ix 2 ⟨0, l.length, g.c⟩ []).2)) 2⟩,
      [ToldIs (rbS a g l ix 2 (1) ⟨0, l.length, g.c⟩ []), decide ((l.length : Int) > 4) = false], by kernel_rfl, ⟨toldIs _, hl, trivial⟩, ?_, fun body hb => ?_⟩
    · rw [em, rbR_c T l ix 2 ⟨0, l.length, g.c⟩ ⟨0, l.length, 0⟩ [] rfl rfl]
    · obtain rfl := Option.some.inj hb
      exact LoopsFor.cons (by kernel_rfl) hgo LoopsFor.nil
theorem refBr_3 : Computes A Tryd.prog 58 (fun x : Hs Mk × Rt 32 × Li ((3 : Nat) : Int) × UInt64 × Unit => (⟨rbV T x.2.1.l x.2.2.2.1 3⟩ : Rw 32)) := by
  refine computes_of_runW ht (ITblOK.nil _) Tryd.func58 (by kernel_rfl) (by kernel_rfl) 6 ?_
  rintro ⟨a, g, _⟩ ⟨⟨m⟩, ⟨l⟩, ⟨⟩, ix, ⟨⟩⟩ W ⟨ha, ⟨hg, hn⟩, _⟩
  have hG : HasRows W l g := hg
  have hN : l.length < 1048576 := hn
  have rt : ReadT W.cell? a 0 72 := by
    intro b hb j hj
    obtain rfl := Option.some.inj hb
    exact ha (0 + j) (show 0 + j < 72 by omega)
  have gc := hG.1
  show ∃ orc lp y vc, _ ∧ _ ∧ y = (⟨cutR 32 (pickN 0 (flatR (rbR T l ix 3 ⟨0, mS l 3, 0⟩ []).2)) 3⟩ : Rw 32) ∧ _
  cases hl : decide ((l.length : Int) > 8) with
  | true =>
    have h1 := of_decide_eq_true hl
    have em : mS l 3 = 8 - 0 := by unfold mS; rw [show decide ((l.length : Int) > ((2 ^ 3 : Nat) : Int)) = true from hl]
    have hs : InS l ⟨0, 8 - 0, g.c - 0⟩ := ⟨by show 8 - 0 ≤ g.c - 0; omega, by show 0 + (8 - 0) * 32 ≤ _; omega⟩
    have hgo : SoundFor Tryd.prog W.cell? [] (.loop (loopNo Tryd.f58 6)) (rbS a g l ix 3 (2) ⟨0, 8 - 0, g.c - 0⟩ []) (.exit 0) (rbS a g l ix 3 (-1) (rbR T l ix 3 ⟨0, 8 - 0, g.c - 0⟩ []).1 (rbR T l ix 3 ⟨0, 8 - 0, g.c - 0⟩ []).2) := fun c e1 e2 e3 e4 => (rbG_3 T ht a rt g hG hN ix e1 e2 e3 e4 _ hs).sound
    refine ⟨saysY [], lps [(6, rbS a g l ix 3 (2) ⟨0, 8 - 0, g.c - 0⟩ [], .exit 0, rbS a g l ix 3 (-1) (rbR T l ix 3 ⟨0, 8 - 0, g.c - 0⟩ []).1 (rbR T l ix 3 ⟨0, 8 - 0, g.c - 0⟩ []).2)], ⟨cutR 32 (pickN 0 (flatR (rbR T l ix 3 ⟨0, 8 - 0, g.c - 0⟩ []).2)) 3⟩,
      [ToldIs (rbS a g l ix 3 (2) ⟨0, 8 - 0, g.c - 0⟩ []), (0 : Int) ≤ 8 ∧ (8 : Int) ≤ (g.c : Int), decide ((l.length : Int) > 8) = true], by kernel_rfl, ⟨toldIs _, by omega, hl, trivial⟩, ?_, fun body hb => ?_⟩
    · rw [em, rbR_c T l ix 3 ⟨0, 8 - 0, g.c - 0⟩ ⟨0, 8 - 0, 0⟩ [] rfl rfl]
    · obtain rfl := Option.some.inj hb
      exact LoopsFor.cons (by kernel_rfl) hgo LoopsFor.nil
  | false =>
    have em : mS l 3 = l.length := by unfold mS; rw [show decide ((l.length : Int) > ((2 ^ 3 : Nat) : Int)) = false from hl]
    have hs : InS l ⟨0, l.length, g.c⟩ := ⟨gc, by show 0 + l.length * 32 ≤ _; omega⟩
    have hgo : SoundFor Tryd.prog W.cell? [] (.loop (loopNo Tryd.f58 6)) (rbS a g l ix 3 (2) ⟨0, l.length, g.c⟩ []) (.exit 0) (rbS a g l ix 3 (-1) (rbR T l ix 3 ⟨0, l.length, g.c⟩ []).1 (rbR T l ix 3 ⟨0, l.length, g.c⟩ []).2) := fun c e1 e2 e3 e4 => (rbG_3 T ht a rt g hG hN ix e1 e2 e3 e4 _ hs).sound
    refine ⟨saysY [(22, false), (23, false)], lps [(6, rbS a g l ix 3 (2) ⟨0, l.length, g.c⟩ [], .exit 0, rbS a g l ix 3 (-1) (rbR T l ix 3 ⟨0, l.length, g.c⟩ []).1 (rbR T l ix 3 ⟨0, l.length, g.c⟩ []).2)], ⟨cutR 32 (pickN 0 (flatR (rbR T l ix 3 ⟨0, l.length, g.c⟩ []).2)) 3⟩,
      [ToldIs (rbS a g l ix 3 (2) ⟨0, l.length, g.c⟩ []), decide ((l.length : Int) > 8) = false], by kernel_rfl, ⟨toldIs _, hl, trivial⟩, ?_, fun body hb => ?_⟩
    · rw [em, rbR_c T l ix 3 ⟨0, l.length, g.c⟩ ⟨0, l.length, 0⟩ [] rfl rfl]
    · obtain rfl := Option.some.inj hb
      exact LoopsFor.cons (by kernel_rfl) hgo LoopsFor.nil
theorem refBr_4 : Computes A Tryd.prog 58 (fun x : Hs Mk × Rt 32 × Li ((4 : Nat) : Int) × UInt64 × Unit => (⟨rbV T x.2.1.l x.2.2.2.1 4⟩ : Rw 32)) := by
  refine computes_of_runW ht (ITblOK.nil _) Tryd.func58 (by kernel_rfl) (by kernel_rfl) 6 ?_
  rintro ⟨a, g, _⟩ ⟨⟨m⟩, ⟨l⟩, ⟨⟩, ix, ⟨⟩⟩ W ⟨ha, ⟨hg, hn⟩, _⟩
  have hG : HasRows W l g := hg
  have hN : l.length < 1048576 := hn
  have rt : ReadT W.cell? a 0 72 := by
    intro b hb j hj
    obtain rfl := Option.some.inj hb
    exact ha (0 + j) (show 0 + j < 72 by omega)
  have gc := hG.1
  show ∃ orc lp y vc, _ ∧ _ ∧ y = (⟨cutR 32 (pickN 0 (flatR (rbR T l ix 4 ⟨0, mS l 4, 0⟩ []).2)) 4⟩ : Rw 32) ∧ _
  cases hl : decide ((l.length : Int) > 16) with
  | true =>
    have h1 := of_decide_eq_true hl
    have em : mS l 4 = 16 - 0 := by unfold mS; rw [show decide ((l.length : Int) > ((2 ^ 4 : Nat) : Int)) = true from hl]
    have hs : InS l ⟨0, 16 - 0, g.c - 0⟩ := ⟨by show 16 - 0 ≤ g.c - 0; omega, by show 0 + (16 - 0) * 32 ≤ _; omega⟩
    have hgo : SoundFor Tryd.prog W.cell? [] (.loop (loopNo Tryd.f58 6)) (rbS a g l ix 4 (3) ⟨0, 16 - 0, g.c - 0⟩ []) (.exit 0) (rbS a g l ix 4 (-1) (rbR T l ix 4 ⟨0, 16 - 0, g.c - 0⟩ []).1 (rbR T l ix 4 ⟨0, 16 - 0, g.c - 0⟩ []).2) := fun c e1 e2 e3 e4 => (rbG_4 T ht a rt g hG hN ix e1 e2 e3 e4 _ hs).sound
    refine ⟨saysY [], lps [(6, rbS a g l ix 4 (3) ⟨0, 16 - 0, g.c - 0⟩ [], .exit 0, rbS a g l ix 4 (-1) (rbR T l ix 4 ⟨0, 16 - 0, g.c - 0⟩ []).1 (rbR T l ix 4 ⟨0, 16 - 0, g.c - 0⟩ []).2)], ⟨cutR 32 (pickN 0 (flatR (rbR T l ix 4 ⟨0, 16 - 0, g.c - 0⟩ []).2)) 4⟩,
      [ToldIs (rbS a g l ix 4 (3) ⟨0, 16 - 0, g.c - 0⟩ []), (0 : Int) ≤ 16 ∧ (16 : Int) ≤ (g.c : Int), decide ((l.length : Int) > 16) = true], by kernel_rfl, ⟨toldIs _, by omega, hl, trivial⟩, ?_, fun body hb => ?_⟩
    · rw [em, rbR_c T l ix 4 ⟨0, 16 - 0, g.c - 0⟩ ⟨0, 16 - 0, 0⟩ [] rfl rfl]
    · obtain rfl := Option.some.inj hb
      exact LoopsFor.cons (by kernel_rfl) hgo LoopsFor.nil
  | false =>
    have em : mS l 4 = l.length := by unfold mS; rw [show decide ((l.length : Int) > ((2 ^ 4 : Nat) : Int)) = false from hl]
    have hs : InS l ⟨0, l.length, g.c⟩ := ⟨gc, by show 0 + l.length * 32 ≤ _; omega⟩
    have hgo : SoundFor Tryd.prog W.cell? [] (.loop (loopNo Tryd.f58 6)) (rbS a g l ix 4 (3) ⟨0, l.length, g.c⟩ []) (.exit 0) (rbS a g l ix 4 (-1) (rbR T l ix 4 ⟨0, l.length, g.c⟩ []).1 (rbR T l ix 4 ⟨0, l.length, g.c⟩ []).2) := fun c e1 e2 e3 e4 => (rbG_4 T ht a rt g hG hN ix e1 e2 e3 e4 _ hs).sound
    refine ⟨saysY [(22, false), (23, false)], lps [(6, rbS a g l ix 4 (3) ⟨0, l.length, g.c⟩ [], .exit 0, rbS a g l ix 4 (-1) (rbR T l ix 4 ⟨0, l.length, g.c⟩ []).1 (rbR T l ix 4 ⟨0, l.length, g.c⟩ []).2)], ⟨cutR 32 (pickN 0 (flatR (rbR T l ix 4 ⟨0, l.length, g.c⟩ []).2)) 4⟩,
      [ToldIs (rbS a g l ix 4 (3) ⟨0, l.length, g.c⟩ []), decide ((l.length : Int) > 16) = false], by kernel_rfl, ⟨toldIs _, hl, trivial⟩, ?_, fun body hb => ?_⟩
    · rw [em, rbR_c T l ix 4 ⟨0, l.length, g.c⟩ ⟨0, l.length, 0⟩ [] rfl rfl]
    · obtain rfl := Option.some.inj hb
      exact LoopsFor.cons (by kernel_rfl) hgo LoopsFor.nil
theorem refBr_5 : Computes A Tryd.prog 58 (fun x : Hs Mk × Rt 32 × Li ((5 : Nat) : Int) × UInt64 × Unit => (⟨rbV T x.2.1.l x.2.2.2.1 5⟩ : Rw 32)) := by
  refine computes_of_runW ht (ITblOK.nil _) Tryd.func58 (by kernel_rfl) (by kernel_rfl) 6 ?_
  rintro ⟨a, g, _⟩ ⟨⟨m⟩, ⟨l⟩, ⟨⟩, ix, ⟨⟩⟩ W ⟨ha, ⟨hg, hn⟩, _⟩
  have hG : HasRows W l g := hg
  have hN : l.length < 1048576 := hn
  have rt : ReadT W.cell? a 0 72 := by
    intro b hb j hj
    obtain rfl := Option.some.inj hb
    exact ha (0 + j) (show 0 + j < 72 by omega)
  have gc := hG.1
  show ∃ orc lp y vc, _ ∧ _ ∧ y = (⟨cutR 32 (pickN 0 (flatR (rbR T l ix 5 ⟨0, mS l 5, 0⟩ []).2)) 5⟩ : Rw 32) ∧ _
  cases hl : decide ((l.length : Int) > 32) with
  | true =>
    have h1 := of_decide_eq_true hl
    have em : mS l 5 = 32 - 0 := by unfold mS; rw [show decide ((l.length : Int) > ((2 ^ 5 : Nat) : Int)) = true from hl]
    have hs : InS l ⟨0, 32 - 0, g.c - 0⟩ := ⟨by show 32 - 0 ≤ g.c - 0; omega, by show 0 + (32 - 0) * 32 ≤ _; omega⟩
    have hgo : SoundFor Tryd.prog W.cell? [] (.loop (loopNo Tryd.f58 6)) (rbS a g l ix 5 (4) ⟨0, 32 - 0, g.c - 0⟩ []) (.exit 0) (rbS a g l ix 5 (-1) (rbR T l ix 5 ⟨0, 32 - 0, g.c - 0⟩ []).1 (rbR T l ix 5 ⟨0, 32 - 0, g.c - 0⟩ []).2) := fun c e1 e2 e3 e4 => (rbG_5 T ht a rt g hG hN ix e1 e2 e3 e4 _ hs).sound
    refine ⟨saysY [], lps [(6, rbS a g l ix 5 (4) ⟨0, 32 - 0, g.c - 0⟩ [], .exit 0, rbS a g l ix 5 (-1) (rbR T l ix 5 ⟨0, 32 - 0, g.c - 0⟩ []).1 (rbR T l ix 5 ⟨0, 32 - 0, g.c - 0⟩ []).2)], ⟨cutR 32 (pickN 0 (flatR (rbR T l ix 5 ⟨0, 32 - 0, g.c - 0⟩ []).2)) 5⟩,
      [ToldIs (rbS a g l ix 5 (4) ⟨0, 32 - 0, g.c - 0⟩ []), (0 : Int) ≤ 32 ∧ (32 : Int) ≤ (g.c : Int), decide ((l.length : Int) > 32) = true], by kernel_rfl, ⟨toldIs _, by omega, hl, trivial⟩, ?_, fun body hb => ?_⟩
    · rw [em, rbR_c T l ix 5 ⟨0, 32 - 0, g.c - 0⟩ ⟨0, 32 - 0, 0⟩ [] rfl rfl]
    · obtain rfl := Option.some.inj hb
      exact LoopsFor.cons (by kernel_rfl) hgo LoopsFor.nil
  | false =>
    have em : mS l 5 = l.length := by unfold mS; rw [show decide ((l.length : Int) > ((2 ^ 5 : Nat) : Int)) = false from hl]
    have hs : InS l ⟨0, l.length, g.c⟩ := ⟨gc, by show 0 + l.length * 32 ≤ _; omega⟩
    have hgo : SoundFor Tryd.prog W.cell? [] (.loop (loopNo Tryd.f58 6)) (rbS a g l ix 5 (4) ⟨0, l.length, g.c⟩ []) (.exit 0) (rbS a g l ix 5 (-1) (rbR T l ix 5 ⟨0, l.length, g.c⟩ []).1 (rbR T l ix 5 ⟨0, l.length, g.c⟩ []).2) := fun c e1 e2 e3 e4 => (rbG_5 T ht a rt g hG hN ix e1 e2 e3 e4 _ hs).sound
    refine ⟨saysY [(22, false), (23, false)], lps [(6, rbS a g l ix 5 (4) ⟨0, l.length, g.c⟩ [], .exit 0, rbS a g l ix 5 (-1) (rbR T l ix 5 ⟨0, l.length, g.c⟩ []).1 (rbR T l ix 5 ⟨0, l.length, g.c⟩ []).2)], ⟨cutR 32 (pickN 0 (flatR (rbR T l ix 5 ⟨0, l.length, g.c⟩ []).2)) 5⟩,
      [ToldIs (rbS a g l ix 5 (4) ⟨0, l.length, g.c⟩ []), decide ((l.length : Int) > 32) = false], by kernel_rfl, ⟨toldIs _, hl, trivial⟩, ?_, fun body hb => ?_⟩
    · rw [em, rbR_c T l ix 5 ⟨0, l.length, g.c⟩ ⟨0, l.length, 0⟩ [] rfl rfl]
    · obtain rfl := Option.some.inj hb
      exact LoopsFor.cons (by kernel_rfl) hgo LoopsFor.nil
theorem refBr_6 : Computes A Tryd.prog 58 (fun x : Hs Mk × Rt 32 × Li ((6 : Nat) : Int) × UInt64 × Unit => (⟨rbV T x.2.1.l x.2.2.2.1 6⟩ : Rw 32)) := by
  refine computes_of_runW ht (ITblOK.nil _) Tryd.func58 (by kernel_rfl) (by kernel_rfl) 6 ?_
  rintro ⟨a, g, _⟩ ⟨⟨m⟩, ⟨l⟩, ⟨⟩, ix, ⟨⟩⟩ W ⟨ha, ⟨hg, hn⟩, _⟩
  have hG : HasRows W l g := hg
  have hN : l.length < 1048576 := hn
  have rt : ReadT W.cell? a 0 72 := by
    intro b hb j hj
    obtain rfl := Option.some.inj hb
    exact ha (0 + j) (show 0 + j < 72 by omega)
  have gc := hG.1
  show ∃ orc lp y vc, _ ∧ _ ∧ y = (⟨cutR 32 (pickN 0 (flatR (rbR T l ix 6 ⟨0, mS l 6, 0⟩ []).2)) 6⟩ : Rw 32) ∧ _
  cases hl : decide ((l.length : Int) > 64) with
  | true =>
    have h1 := of_decide_eq_true hl
    have em : mS l 6 = 64 - 0 := by unfold mS; rw [show decide ((l.length : Int) > ((2 ^ 6 : Nat) : Int)) = true from hl]
    have hs : InS l ⟨0, 64 - 0, g.c - 0⟩ := ⟨by show 64 - 0 ≤ g.c - 0; omega, by show 0 + (64 - 0) * 32 ≤ _; omega⟩
    have hgo : SoundFor Tryd.prog W.cell? [] (.loop (loopNo Tryd.f58 6)) (rbS a g l ix 6 (5) ⟨0, 64 - 0, g.c - 0⟩ []) (.exit 0) (rbS a g l ix 6 (-1) (rbR T l ix 6 ⟨0, 64 - 0, g.c - 0⟩ []).1 (rbR T l ix 6 ⟨0, 64 - 0, g.c - 0⟩ []).2) := fun c e1 e2 e3 e4 => (rbG_6 T ht a rt g hG hN ix e1 e2 e3 e4 _ hs).sound
    refine ⟨saysY [], lps [(6, rbS a g l ix 6 (5) ⟨0, 64 - 0, g.c - 0⟩ [], .exit 0, rbS a g l ix 6 (-1) (rbR T l ix 6 ⟨0, 64 - 0, g.c - 0⟩ []).1 (rbR T l ix 6 ⟨0, 64 - 0, g.c - 0⟩ []).2)], ⟨cutR 32 (pickN 0 (flatR (rbR T l ix 6 ⟨0, 64 - 0, g.c - 0⟩ []).2)) 6⟩,
      [ToldIs (rbS a g l ix 6 (5) ⟨0, 64 - 0, g.c - 0⟩ []), (0 : Int) ≤ 64 ∧ (64 : Int) ≤ (g.c : Int), decide ((l.length : Int) > 64) = true], by kernel_rfl, ⟨toldIs _, by omega, hl, trivial⟩, ?_, fun body hb => ?_⟩
    · rw [em, rbR_c T l ix 6 ⟨0, 64 - 0, g.c - 0⟩ ⟨0, 64 - 0, 0⟩ [] rfl rfl]
    · obtain rfl := Option.some.inj hb
      exact LoopsFor.cons (by kernel_rfl) hgo LoopsFor.nil
  | false =>
    have em : mS l 6 = l.length := by unfold mS; rw [show decide ((l.length : Int) > ((2 ^ 6 : Nat) : Int)) = false from hl]
    have hs : InS l ⟨0, l.length, g.c⟩ := ⟨gc, by show 0 + l.length * 32 ≤ _; omega⟩
    have hgo : SoundFor Tryd.prog W.cell? [] (.loop (loopNo Tryd.f58 6)) (rbS a g l ix 6 (5) ⟨0, l.length, g.c⟩ []) (.exit 0) (rbS a g l ix 6 (-1) (rbR T l ix 6 ⟨0, l.length, g.c⟩ []).1 (rbR T l ix 6 ⟨0, l.length, g.c⟩ []).2) := fun c e1 e2 e3 e4 => (rbG_6 T ht a rt g hG hN ix e1 e2 e3 e4 _ hs).sound
    refine ⟨saysY [(22, false), (23, false)], lps [(6, rbS a g l ix 6 (5) ⟨0, l.length, g.c⟩ [], .exit 0, rbS a g l ix 6 (-1) (rbR T l ix 6 ⟨0, l.length, g.c⟩ []).1 (rbR T l ix 6 ⟨0, l.length, g.c⟩ []).2)], ⟨cutR 32 (pickN 0 (flatR (rbR T l ix 6 ⟨0, l.length, g.c⟩ []).2)) 6⟩,
      [ToldIs (rbS a g l ix 6 (5) ⟨0, l.length, g.c⟩ []), decide ((l.length : Int) > 64) = false], by kernel_rfl, ⟨toldIs _, hl, trivial⟩, ?_, fun body hb => ?_⟩
    · rw [em, rbR_c T l ix 6 ⟨0, l.length, g.c⟩ ⟨0, l.length, 0⟩ [] rfl rfl]
    · obtain rfl := Option.some.inj hb
      exact LoopsFor.cons (by kernel_rfl) hgo LoopsFor.nil
theorem refBr_7 : Computes A Tryd.prog 58 (fun x : Hs Mk × Rt 32 × Li ((7 : Nat) : Int) × UInt64 × Unit => (⟨rbV T x.2.1.l x.2.2.2.1 7⟩ : Rw 32)) := by
  refine computes_of_runW ht (ITblOK.nil _) Tryd.func58 (by kernel_rfl) (by kernel_rfl) 6 ?_
  rintro ⟨a, g, _⟩ ⟨⟨m⟩, ⟨l⟩, ⟨⟩, ix, ⟨⟩⟩ W ⟨ha, ⟨hg, hn⟩, _⟩
  have hG : HasRows W l g := hg
  have hN : l.length < 1048576 := hn
  have rt : ReadT W.cell? a 0 72 := by
    intro b hb j hj
    obtain rfl := Option.some.inj hb
    exact ha (0 + j) (show 0 + j < 72 by omega)
  have gc := hG.1
  show ∃ orc lp y vc, _ ∧ _ ∧ y = (⟨cutR 32 (pickN 0 (flatR (rbR T l ix 7 ⟨0, mS l 7, 0⟩ []).2)) 7⟩ : Rw 32) ∧ _
  cases hl : decide ((l.length : Int) > 128) with
  | true =>
    have h1 := of_decide_eq_true hl
    have em : mS l 7 = 128 - 0 := by unfold mS; rw [show decide ((l.length : Int) > ((2 ^ 7 : Nat) : Int)) = true from hl]
    have hs : InS l ⟨0, 128 - 0, g.c - 0⟩ := ⟨by show 128 - 0 ≤ g.c - 0; omega, by show 0 + (128 - 0) * 32 ≤ _; omega⟩
    have hgo : SoundFor Tryd.prog W.cell? [] (.loop (loopNo Tryd.f58 6)) (rbS a g l ix 7 (6) ⟨0, 128 - 0, g.c - 0⟩ []) (.exit 0) (rbS a g l ix 7 (-1) (rbR T l ix 7 ⟨0, 128 - 0, g.c - 0⟩ []).1 (rbR T l ix 7 ⟨0, 128 - 0, g.c - 0⟩ []).2) := fun c e1 e2 e3 e4 => (rbG_7 T ht a rt g hG hN ix e1 e2 e3 e4 _ hs).sound
    refine ⟨saysY [], lps [(6, rbS a g l ix 7 (6) ⟨0, 128 - 0, g.c - 0⟩ [], .exit 0, rbS a g l ix 7 (-1) (rbR T l ix 7 ⟨0, 128 - 0, g.c - 0⟩ []).1 (rbR T l ix 7 ⟨0, 128 - 0, g.c - 0⟩ []).2)], ⟨cutR 32 (pickN 0 (flatR (rbR T l ix 7 ⟨0, 128 - 0, g.c - 0⟩ []).2)) 7⟩,
      [ToldIs (rbS a g l ix 7 (6) ⟨0, 128 - 0, g.c - 0⟩ []), (0 : Int) ≤ 128 ∧ (128 : Int) ≤ (g.c : Int), decide ((l.length : Int) > 128) = true], by kernel_rfl, ⟨toldIs _, by omega, hl, trivial⟩, ?_, fun body hb => ?_⟩
    · rw [em, rbR_c T l ix 7 ⟨0, 128 - 0, g.c - 0⟩ ⟨0, 128 - 0, 0⟩ [] rfl rfl]
    · obtain rfl := Option.some.inj hb
      exact LoopsFor.cons (by kernel_rfl) hgo LoopsFor.nil
  | false =>
    have em : mS l 7 = l.length := by unfold mS; rw [show decide ((l.length : Int) > ((2 ^ 7 : Nat) : Int)) = false from hl]
    have hs : InS l ⟨0, l.length, g.c⟩ := ⟨gc, by show 0 + l.length * 32 ≤ _; omega⟩
    have hgo : SoundFor Tryd.prog W.cell? [] (.loop (loopNo Tryd.f58 6)) (rbS a g l ix 7 (6) ⟨0, l.length, g.c⟩ []) (.exit 0) (rbS a g l ix 7 (-1) (rbR T l ix 7 ⟨0, l.length, g.c⟩ []).1 (rbR T l ix 7 ⟨0, l.length, g.c⟩ []).2) := fun c e1 e2 e3 e4 => (rbG_7 T ht a rt g hG hN ix e1 e2 e3 e4 _ hs).sound
    refine ⟨saysY [(22, false), (23, false)], lps [(6, rbS a g l ix 7 (6) ⟨0, l.length, g.c⟩ [], .exit 0, rbS a g l ix 7 (-1) (rbR T l ix 7 ⟨0, l.length, g.c⟩ []).1 (rbR T l ix 7 ⟨0, l.length, g.c⟩ []).2)], ⟨cutR 32 (pickN 0 (flatR (rbR T l ix 7 ⟨0, l.length, g.c⟩ []).2)) 7⟩,
      [ToldIs (rbS a g l ix 7 (6) ⟨0, l.length, g.c⟩ []), decide ((l.length : Int) > 128) = false], by kernel_rfl, ⟨toldIs _, hl, trivial⟩, ?_, fun body hb => ?_⟩
    · rw [em, rbR_c T l ix 7 ⟨0, l.length, g.c⟩ ⟨0, l.length, 0⟩ [] rfl rfl]
    · obtain rfl := Option.some.inj hb
      exact LoopsFor.cons (by kernel_rfl) hgo LoopsFor.nil
theorem refBr_8 : Computes A Tryd.prog 58 (fun x : Hs Mk × Rt 32 × Li ((8 : Nat) : Int) × UInt64 × Unit => (⟨rbV T x.2.1.l x.2.2.2.1 8⟩ : Rw 32)) := by
  refine computes_of_runW ht (ITblOK.nil _) Tryd.func58 (by kernel_rfl) (by kernel_rfl) 6 ?_
  rintro ⟨a, g, _⟩ ⟨⟨m⟩, ⟨l⟩, ⟨⟩, ix, ⟨⟩⟩ W ⟨ha, ⟨hg, hn⟩, _⟩
  have hG : HasRows W l g := hg
  have hN : l.length < 1048576 := hn
  have rt : ReadT W.cell? a 0 72 := by
    intro b hb j hj
    obtain rfl := Option.some.inj hb
    exact ha (0 + j) (show 0 + j < 72 by omega)
  have gc := hG.1
  show ∃ orc lp y vc, _ ∧ _ ∧ y = (⟨cutR 32 (pickN 0 (flatR (rbR T l ix 8 ⟨0, mS l 8, 0⟩ []).2)) 8⟩ : Rw 32) ∧ _
  cases hl : decide ((l.length : Int) > 256) with
  | true =>
    have h1 := of_decide_eq_true hl
    have em : mS l 8 = 256 - 0 := by unfold mS; rw [show decide ((l.length : Int) > ((2 ^ 8 : Nat) : Int)) = true from hl]
    have hs : InS l ⟨0, 256 - 0, g.c - 0⟩ := ⟨by show 256 - 0 ≤ g.c - 0; omega, by show 0 + (256 - 0) * 32 ≤ _; omega⟩
    have hgo : SoundFor Tryd.prog W.cell? [] (.loop (loopNo Tryd.f58 6)) (rbS a g l ix 8 (7) ⟨0, 256 - 0, g.c - 0⟩ []) (.exit 0) (rbS a g l ix 8 (-1) (rbR T l ix 8 ⟨0, 256 - 0, g.c - 0⟩ []).1 (rbR T l ix 8 ⟨0, 256 - 0, g.c - 0⟩ []).2) := fun c e1 e2 e3 e4 => (rbG_8 T ht a rt g hG hN ix e1 e2 e3 e4 _ hs).sound
    refine ⟨saysY [], lps [(6, rbS a g l ix 8 (7) ⟨0, 256 - 0, g.c - 0⟩ [], .exit 0, rbS a g l ix 8 (-1) (rbR T l ix 8 ⟨0, 256 - 0, g.c - 0⟩ []).1 (rbR T l ix 8 ⟨0, 256 - 0, g.c - 0⟩ []).2)], ⟨cutR 32 (pickN 0 (flatR (rbR T l ix 8 ⟨0, 256 - 0, g.c - 0⟩ []).2)) 8⟩,
      [ToldIs (rbS a g l ix 8 (7) ⟨0, 256 - 0, g.c - 0⟩ []), (0 : Int) ≤ 256 ∧ (256 : Int) ≤ (g.c : Int), decide ((l.length : Int) > 256) = true], by kernel_rfl, ⟨toldIs _, by omega, hl, trivial⟩, ?_, fun body hb => ?_⟩
    · rw [em, rbR_c T l ix 8 ⟨0, 256 - 0, g.c - 0⟩ ⟨0, 256 - 0, 0⟩ [] rfl rfl]
    · obtain rfl := Option.some.inj hb
      exact LoopsFor.cons (by kernel_rfl) hgo LoopsFor.nil
  | false =>
    have em : mS l 8 = l.length := by unfold mS; rw [show decide ((l.length : Int) > ((2 ^ 8 : Nat) : Int)) = false from hl]
    have hs : InS l ⟨0, l.length, g.c⟩ := ⟨gc, by show 0 + l.length * 32 ≤ _; omega⟩
    have hgo : SoundFor Tryd.prog W.cell? [] (.loop (loopNo Tryd.f58 6)) (rbS a g l ix 8 (7) ⟨0, l.length, g.c⟩ []) (.exit 0) (rbS a g l ix 8 (-1) (rbR T l ix 8 ⟨0, l.length, g.c⟩ []).1 (rbR T l ix 8 ⟨0, l.length, g.c⟩ []).2) := fun c e1 e2 e3 e4 => (rbG_8 T ht a rt g hG hN ix e1 e2 e3 e4 _ hs).sound
    refine ⟨saysY [(22, false), (23, false)], lps [(6, rbS a g l ix 8 (7) ⟨0, l.length, g.c⟩ [], .exit 0, rbS a g l ix 8 (-1) (rbR T l ix 8 ⟨0, l.length, g.c⟩ []).1 (rbR T l ix 8 ⟨0, l.length, g.c⟩ []).2)], ⟨cutR 32 (pickN 0 (flatR (rbR T l ix 8 ⟨0, l.length, g.c⟩ []).2)) 8⟩,
      [ToldIs (rbS a g l ix 8 (7) ⟨0, l.length, g.c⟩ []), decide ((l.length : Int) > 256) = false], by kernel_rfl, ⟨toldIs _, hl, trivial⟩, ?_, fun body hb => ?_⟩
    · rw [em, rbR_c T l ix 8 ⟨0, l.length, g.c⟩ ⟨0, l.length, 0⟩ [] rfl rfl]
    · obtain rfl := Option.some.inj hb
      exact LoopsFor.cons (by kernel_rfl) hgo LoopsFor.nil
end
end Go.Proofs.YtaloefkkllebeaaDoor
