/- The laws of fp's: light inputs; the law of the field. -/
import Derived.Test.YtbdbmcdcjejffaaFeR
import Derived.Test.YtbdbmcdcjejffaaEnM
set_option linter.unusedVariables false
set_option linter.unusedSimpArgs false
set_option linter.unusedSectionVars false
namespace Go.Proofs.Ytbdbmcdcjejffaa
open Go Go.Sh

/-- Of the inputs, the k-th is the first that is long (none for k = 0). -/
def lightO (k : Nat) : Nat → Nat → Dec := fun rd t => match Nat.beq t 15 with | true => (match Nat.beq rd k with | true => .take true | false => .take false) | false => .keep
noncomputable def lightRow (k : Nat) : Row A := rowIn Try.prog [] [] (lightO k) 8 26 Try.f26
theorem lightRow_ok (k : Nat) : RowOK Try.prog (lightRow k) := rowIn_ok (TblOK.nil _) (ITblOK.nil _) (lightO k) 8 Try.func26 (by kernel_rfl) (by kernel_rfl)

noncomputable def tblLaws (k : Nat) (Wd : List UInt8 → Fp) (O : UInt64 → Fp) (P D M : Fp → Fp → Fp) (N I : Fp → Fp) (E : Fp → Fp → Bool) (Z : Fp → Bool) : List (Row A) :=
  [rowOf A 25 (fun _ : Unit => true), lightRow k, rowOf A 35 (fun x : Bt × Unit => Wd x.1.l), rowOf A 38 (fun x : UInt64 × Unit => O x.1),
    rowOf A 41 (fun x : Fp × Fp × Unit => P x.1 x.2.1), rowOf A 43 (fun x : Fp × Fp × Unit => D x.1 x.2.1), rowOf A 45 (fun x : Fp × Fp × Unit => M x.1 x.2.1),
    rowOf A 48 (fun x : Fp × Unit => N x.1), rowOf A 50 (fun x : Fp × Unit => I x.1),
    rowOf A 52 (fun x : Fp × Fp × Unit => E x.1 x.2.1), rowOf A 31 (fun x : Fp × Unit => Z x.1)]

/-- The tests of a list are so, all others hold. -/
def saysY (l : List (Nat × Bool)) : Nat → Nat → Dec := fun _ t =>
  match l with
  | [] => .take true
  | (d, b) :: r => match Nat.beq d t with | true => .take b | false => saysY r 0 t

/-- What is asked where bytes are read as an element. -/
abbrev ReadB (W : World) (g : Spot) (l : List UInt8) : Prop := Reads W.cell? g.a (byteAt (B := FB) l) 0 l.length
abbrev AllU8 (l : List UInt8) : Prop := ∀ j, j < l.length → isU8 (byteAt (B := FB) l (0 + j)) = true

theorem readB {W : World} {g : Spot} {l : List UInt8} (h : HasBytes W l g) : ReadB W g l := reads_bytes h (by omega)
theorem allU8 (l : List UInt8) : AllU8 l := isU8_bytes l 0 l.length
theorem shortB {l : List UInt8} (h : l.length ≤ 128) : (partB l 0 l.length).length < 1048576 := by rw [partB_all]; omega

structure LawsIs (O : UInt64 → Fp) (P D M : Fp → Fp → Fp) (N I : Fp → Fp) (E : Fp → Fp → Bool) (Z : Fp → Bool) : Prop where
  h1 : ∀ a b, E (P a b) (P b a) = true
  h2 : ∀ a b, E (M a b) (M b a) = true
  h3 : ∀ a b c, E (P a (P b c)) (P (P a b) c) = true
  h4 : ∀ a b c, E (M a (M b c)) (M (M a b) c) = true
  h5 : ∀ a b c, E (M a (P b c)) (P (M a b) (M a c)) = true
  h6 : ∀ a b, E (P (D a b) b) a = true
  h7 : ∀ a, Z (P a (N a)) = true
  h8 : ∀ a, E (M a (O 1)) a = true
  h9 : ∀ a, Z a = false → E (M a (I a)) (O 1) = true
  h0 : ∀ a b, Z (M a b) = (Z a || Z b)

theorem laws_of (Wd : List UInt8 → Fp) (O : UInt64 → Fp) (P D M : Fp → Fp → Fp) (N I : Fp → Fp) (E : Fp → Fp → Bool) (Z : Fp → Bool) (ht : ∀ k, TblOK Try.prog (tblLaws k Wd O P D M N I E Z)) (h : LawsIs O P D M N I E Z) :
    Computes A Try.prog 5 (fun _ : Bs × Bs × Bs × Unit => true) := by
  refine computes_of_runT0 Try.func5 (by kernel_rfl) (by kernel_rfl) 8 ?_
  rintro ⟨g1, g2, g3, _⟩ ⟨⟨x⟩, ⟨y⟩, ⟨z⟩, ⟨⟩⟩ W ⟨k1, k2, k3, _⟩
  have k1 : HasBytes W x g1 := k1
  have k2 : HasBytes W y g2 := k2
  have k3 : HasBytes W z g3 := k3
  by_cases hx : x.length ≤ 128
  · by_cases hy : y.length ≤ 128
    · by_cases hz : z.length ≤ 128
      · obtain ⟨a, ha⟩ : ∃ a, a = Wd (partB x 0 x.length) := ⟨_, rfl⟩
        obtain ⟨b, hb⟩ : ∃ b, b = Wd (partB y 0 y.length) := ⟨_, rfl⟩
        obtain ⟨c, hc⟩ : ∃ c, c = Wd (partB z 0 z.length) := ⟨_, rfl⟩
        have hm := h.h0 a b
        have rest : All [E (M a (O 1)) a = true, Z (P a (N a)) = true, E (P (D a b) b) a = true, E (M a (P b c)) (P (M a b) (M a c)) = true, E (M a (M b c)) (M (M a b) c) = true, E (P a (P b c)) (P (P a b) c) = true, E (M a b) (M b a) = true, E (P a b) (P b a) = true,
            (partB z 0 z.length).length < 1048576, ReadB W g3 z, AllU8 z, (partB y 0 y.length).length < 1048576, ReadB W g2 y, AllU8 y, (partB x 0 x.length).length < 1048576, ReadB W g1 x, AllU8 x,
            decide ((z.length : Int) > 128) = false, decide ((y.length : Int) > 128) = false, decide ((x.length : Int) > 128) = false, true = true] :=
          ⟨h.h8 a, h.h7 a, h.h6 a b, h.h5 a b c, h.h4 a b c, h.h3 a b c, h.h2 a b, h.h1 a b, shortB hz, readB k3, allU8 z, shortB hy, readB k2, allU8 y, shortB hx, readB k1, allU8 x, decide_eq_false (by omega), decide_eq_false (by omega), decide_eq_false (by omega), rfl, trivial⟩
        refine ⟨_, ht 0, ?_⟩
        cases hza : Z a with
        | true =>
          rw [hza] at hm
          refine ⟨saysY [], _, (Z a = true) :: (Z (M a b) = true) :: (Z a = true) :: _, ?_, All.cons hza (All.cons hm (All.cons hza rest)), rfl⟩
          subst ha hb hc
          kernel_rfl
        | false =>
          have hi := h.h9 a hza
          rw [hza] at hm
          cases hzb : Z b with
          | true =>
            rw [hzb] at hm
            refine ⟨saysY [(110, false), (126, false)], _, (Z b = true) :: (Z a = false) :: (Z (M a b) = true) :: (E (M a (I a)) (O 1) = true) :: (Z a = false) :: _, ?_, All.cons hzb (All.cons hza (All.cons hm (All.cons hi (All.cons hza rest)))), rfl⟩
            subst ha hb hc
            kernel_rfl
          | false =>
            rw [hzb] at hm
            refine ⟨saysY [(110, false), (124, false), (126, false), (129, false)], _, (Z b = false) :: (Z a = false) :: (Z (M a b) = false) :: (E (M a (I a)) (O 1) = true) :: (Z a = false) :: _, ?_, All.cons hzb (All.cons hza (All.cons hm (All.cons hi (All.cons hza rest)))), rfl⟩
            subst ha hb hc
            kernel_rfl
      · exact ⟨_, ht 3, saysY [], true, [decide ((z.length : Int) > 128) = true, decide ((y.length : Int) > 128) = false, decide ((x.length : Int) > 128) = false, true = true], by kernel_rfl, ⟨decide_eq_true (by omega), decide_eq_false (by omega), decide_eq_false (by omega), rfl, trivial⟩, rfl⟩
    · exact ⟨_, ht 2, saysY [], true, [decide ((y.length : Int) > 128) = true, decide ((x.length : Int) > 128) = false, true = true], by kernel_rfl, ⟨decide_eq_true (by omega), decide_eq_false (by omega), rfl, trivial⟩, rfl⟩
  · exact ⟨_, ht 1, saysY [], true, [decide ((x.length : Int) > 128) = true, true = true], by kernel_rfl, ⟨decide_eq_true (by omega), rfl, trivial⟩, rfl⟩

end Go.Proofs.Ytbdbmcdcjejffaa
