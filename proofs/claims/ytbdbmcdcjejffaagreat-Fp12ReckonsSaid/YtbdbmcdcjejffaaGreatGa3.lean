/- Fp2: the reference's root. -/
import Derived.Test.YtbdbmcdcjejffaaGreatGa2
set_option linter.unusedVariables false
set_option linter.unusedSimpArgs false
set_option linter.unusedSectionVars false
namespace Go.Proofs.YtbdbmcdcjejffaaGreat
open Go Go.Sh

/-- Words, held against one another. -/
def eqW : List UInt64 → List UInt64 → Bool
  | [], [] => true
  | x :: l, y :: r => ((x.toNat : Int) == y.toNat) && eqW l r
  | _, _ => false
def w6 (l : L6) : List UInt64 := [l.1, l.2.1, l.2.2.1, l.2.2.2.1, l.2.2.2.2.1, l.2.2.2.2.2]
theorem eqW_eq : ∀ l r : List UInt64, l.length = r.length → eqW l r = decide (l = r)
  | [], [], _ => rfl
  | x :: l, y :: r, h => by
    simp only [eqW, eqW_eq l r (by simpa using h), List.cons.injEq, Bool.decide_and]
    congr 1
    by_cases e : x = y
    · subst e; simp
    · have : (x.toNat : Int) ≠ y.toNat := fun h' => e (UInt64.toNat_inj.1 (by omega))
      simp [e, this]
  | [], _ :: _, h => by simp at h
  | _ :: _, [], h => by simp at h
theorem w6_inj {a b : L6} (h : w6 a = w6 b) : a = b := by
  obtain ⟨a0, a1, a2, a3, a4, a5⟩ := a
  obtain ⟨b0, b1, b2, b3, b4, b5⟩ := b
  simp only [w6, List.cons.injEq, and_true] at h
  obtain ⟨rfl, rfl, rfl, rfl, rfl, rfl⟩ := h
  rfl
theorem w6_len (l : L6) : (w6 l).length = 6 := rfl
/-- Elements of two parts, held against one another word by word. -/
def eqE (a b : F2) : Bool := eqW (w6 (limbs a.1) ++ w6 (limbs a.2)) (w6 (limbs b.1) ++ w6 (limbs b.2))
theorem w6_app {a b : Fp} {l r : List UInt64} : w6 (limbs a) ++ l = w6 (limbs b) ++ r ↔ a = b ∧ l = r := by
  constructor
  · intro h
    obtain ⟨h1, h2⟩ := List.append_inj h (by rw [w6_len, w6_len])
    exact ⟨limbs_inj (w6_inj h1), h2⟩
  · rintro ⟨rfl, rfl⟩; rfl
theorem eqE_eq (a b : F2) : eqE a b = decide (a = b) := by
  obtain ⟨a1, a2⟩ := a
  obtain ⟨b1, b2⟩ := b
  unfold eqE
  rw [eqW_eq _ _ (by rw [List.length_append, List.length_append, w6_len, w6_len, w6_len, w6_len])]
  show decide (w6 (limbs a1) ++ w6 (limbs a2) = w6 (limbs b1) ++ w6 (limbs b2)) = _
  have : (w6 (limbs a1) ++ w6 (limbs a2) = w6 (limbs b1) ++ w6 (limbs b2)) = ((a1, a2) = (b1, b2)) := by
    rw [w6_app, Prod.mk.injEq]
    have h2 : (w6 (limbs a2) = w6 (limbs b2)) = (a2 = b2) := propext ⟨fun h => limbs_inj (w6_inj h), fun h => by rw [h]⟩
    rw [h2]
  simp only [this]

section
variable (S : Fp → T2 Fp Bool) (Z : Fp → Bool) (N I : Fp → Fp) (P D M : Fp → Fp → Fp) (Nm : F2 → Fp) (h : Fp)
/-- A root, if there is one. -/
def candW (a : F2) : F2 :=
  bif Z a.2 then (bif (S a.1).b then ((S a.1).a, 0) else (0, (S (N a.1)).a))
  else bif (S (M (P a.1 (S (Nm a)).a) h)).b then ((S (M (P a.1 (S (Nm a)).a) h)).a, M (M a.2 h) (I (S (M (P a.1 (S (Nm a)).a) h)).a))
  else ((S (M (D a.1 (S (Nm a)).a) h)).a, M (M a.2 h) (I (S (M (D a.1 (S (Nm a)).a) h)).a))

/-- What becomes of it. -/
def tryW (M2 : F2 → F2 → F2) (L : F2 → Bool) (N2 : F2 → F2) (a r : F2) : T2 F2 Bool :=
  bif eqE (M2 r r) a then (bif L r then ⟨N2 r, true⟩ else ⟨r, true⟩) else ⟨(0, 0), false⟩

end

end Go.Proofs.YtbdbmcdcjejffaaGreat
