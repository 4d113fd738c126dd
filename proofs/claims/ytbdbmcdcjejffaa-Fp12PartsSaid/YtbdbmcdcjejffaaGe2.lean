/- Fp6's equality and noughts; fp12 over variable functions of three parts. -/
import Derived.Test.YtbdbmcdcjejffaaGe1
set_option linter.unusedVariables false
set_option linter.unusedSimpArgs false
set_option linter.unusedSectionVars false
namespace Go.Proofs.Ytbdbmcdcjejffaa
open Go Go.Sh

/-- A row that says what it answers, by how much memory there is: what it says is asked for. -/
def rowTell (A : Type) [Atom A] {Γ : Type} [Args A Γ] [Ret A Bool] (g : FuncId) (f : Γ → Bool) (d : Nat → Bool) : Row A where
  g := g
  e := fun old args m =>
    match Args.parse old m args with
    | some (x, vc) => some (Ret.tv (d m.length), none, (f x = d m.length) :: vc)
    | none => none
theorem rowTell_ok {P : Program} {Γ : Type} [Args A Γ] {g : FuncId} {f : Γ → Bool} (h : Computes A P g f) (d : Nat → Bool) : RowOK P (rowTell A g f d) := by
  intro c args m res mm vc _ he hvc X W0 W β vs _ hm hvs
  simp only [rowTell] at he
  split at he
  · rename_i x vc' hx
    simp at he
    obtain ⟨rfl, rfl, rfl⟩ := he
    have e : f x = d m.length := hvc _ (by simp)
    obtain ⟨gh, hg, rfl⟩ := Args.ok hx (fun p hp => hvc p (by simp [hp])) hm hvs
    refine (h gh x W hg).mono (fun v W' hv => ?_)
    obtain ⟨K, k1, k2⟩ := Ret.is hv.1
    exact ⟨K, k1, by rw [← e]; exact k2 β, hv.2⟩
  · cases he

theorem eqV_of (Eq : F2 → F2 → Bool) (ht : TblOK Try.prog [rowOf A 113 (fun x : F2 × F2 × Unit => Eq x.1 x.2.1)]) : Computes A Try.prog 70 (fun x : F6 × F6 × Unit => Eq x.1.1 x.2.1.1 && Eq x.1.2.1 x.2.1.2.1 && Eq x.1.2.2 x.2.1.2.2) := by
  refine computes_of_run ht Try.func70 (by kernel_rfl) (by kernel_rfl) 8 ?_
  rintro _ ⟨⟨a1, a2, a3⟩, ⟨b1, b2, b3⟩, ⟨⟩⟩ W -
  cases h1 : Eq a1 b1 with
  | false => exact ⟨saysY [(9, false)], _, [Eq a1 b1 = false], (by kernel_rfl : _ = some (some false, _)), ⟨h1, trivial⟩, by simp [h1]⟩
  | true =>
    cases h2 : Eq a2 b2 with
    | false => exact ⟨saysY [(15, false)], _, [Eq a2 b2 = false, Eq a1 b1 = true], (by kernel_rfl : _ = some (some false, _)), ⟨h2, h1, trivial⟩, by simp [h2]⟩
    | true =>
      cases h3 : Eq a3 b3 with
      | false => exact ⟨saysY [(22, false)], _, [Eq a3 b3 = false, Eq a2 b2 = true, Eq a1 b1 = true], (by kernel_rfl : _ = some (some false, _)), ⟨h3, h2, h1, trivial⟩, by simp [h3]⟩
      | true => exact ⟨saysY [], _, [Eq a3 b3 = true, Eq a2 b2 = true, Eq a1 b1 = true], (by kernel_rfl : _ = some (some true, _)), ⟨h3, h2, h1, trivial⟩, by simp [h1, h2, h3]⟩

theorem isZV_of (Z : F2 → Bool) (hZ : Computes A Try.prog 109 (fun x : F2 × Unit => Z x.1)) : Computes A Try.prog 74 (fun x : F6 × Unit => Z x.1.1 && Z x.1.2.1 && Z x.1.2.2) := by
  refine computes_of_runT Try.func74 (by kernel_rfl) (by kernel_rfl) 8 ?_
  rintro _ ⟨⟨a1, a2, a3⟩, ⟨⟩⟩ W -
  have ok : ∀ d, TblOK Try.prog [rowTell A 109 (fun x : F2 × Unit => Z x.1) d, rowIn Try.prog [] [] (fun _ _ => .keep) 4 169 Try.f169] := fun d =>
    .cons (rowTell_ok hZ d) (.cons (rowIn_ok (TblOK.nil _) (ITblOK.nil _) _ 4 Try.func169 (by kernel_rfl) (by kernel_rfl)) (.nil _))
  have iok : ITblOK (A := A) Try.prog [iter Try.prog [] [] (fun _ _ => .keep) 4 187 Try.f187] := ITblOK.cons (iter_ok (TblOK.nil _) (ITblOK.nil _) _ 4 Try.func187 (by kernel_rfl) (by kernel_rfl)) (ITblOK.nil _)
  have no : ∀ body, Try.f74.body = some body → LoopsFor (A := A) Try.prog W.cell? [] noLoop body := fun body _ => loopsFor_none
  cases h1 : Z a1 with
  | false => exact ⟨_, _, ok (fun n => !(Nat.beq n 5)), iok, fun _ _ => .eval, noLoop, _, [Z a1 = false], (by kernel_rfl : _ = some (some false, _)), ⟨h1, trivial⟩, by simp [h1], no⟩
  | true =>
    cases h2 : Z a2 with
    | false => exact ⟨_, _, ok (fun n => !(Nat.beq n 6)), iok, fun _ _ => .eval, noLoop, _, [Z a2 = false, Z a1 = true], (by kernel_rfl : _ = some (some false, _)), ⟨h2, h1, trivial⟩, by simp [h2], no⟩
    | true =>
      cases h3 : Z a3 with
      | false => exact ⟨_, _, ok (fun n => !(Nat.beq n 7)), iok, fun _ _ => .eval, noLoop, _, [Z a3 = false, Z a2 = true, Z a1 = true], (by kernel_rfl : _ = some (some false, _)), ⟨h3, h2, h1, trivial⟩, by simp [h3], no⟩
      | true => exact ⟨_, _, ok (fun n => !(Nat.beq n 9)), iok, fun _ _ => .eval, noLoop, _, [Z a3 = true, Z a2 = true, Z a1 = true], (by kernel_rfl : _ = some (some true, _)), ⟨h3, h2, h1, trivial⟩, by simp [h1, h2, h3], no⟩

abbrev F12 := F6 × F6
def zeroV : F6 := ((0, 0), (0, 0), (0, 0))
section
variable (P D M : F6 → F6 → F6) (N Q V I : F6 → F6) (O : F6)
noncomputable def tblV12 : List (Row A) :=
  [rowOf A 69 (fun x : F6 × F6 × Unit => P x.1 x.2.1),
    rowOf A 72 (fun x : F6 × F6 × Unit => D x.1 x.2.1),
    rowOf A 71 (fun x : F6 × F6 × Unit => M x.1 x.2.1),
    rowOf A 80 (fun x : F6 × Unit => N x.1),
    rowOf A 82 (fun x : F6 × Unit => Q x.1),
    rowOf A 85 (fun x : F6 × Unit => V x.1),
    rowOf A 75 (fun x : F6 × Unit => I x.1),
    rowOf A 73 (fun _ : Unit => O)]
def addY (a b : F12) : F12 := ((P a.1 b.1), (P a.2 b.2))
def subY (a b : F12) : F12 := ((D a.1 b.1), (D a.2 b.2))
def mulYr (a b : F12) : F12 := ((P (M a.1 b.1) (V (M a.2 b.2))), (D (D (M (P a.1 a.2) (P b.1 b.2)) (M a.1 b.1)) (M a.2 b.2)))
def sqYr (a : F12) : F12 := ((D (D (M (P a.1 a.2) (P a.1 (V a.2))) (M a.1 a.2)) (V (M a.1 a.2))), (P (M a.1 a.2) (M a.1 a.2)))
def conjYr (a : F12) : F12 := (a.1, (N a.2))
def invYr (a : F12) : F12 := ((M a.1 (I (D (Q a.1) (V (Q a.2))))), (M (N a.2) (I (D (Q a.1) (V (Q a.2))))))
def oneYr  : F12 := (O, zeroV)
end
theorem addY_of (P D M : F6 → F6 → F6) (N Q V I : F6 → F6) (O : F6) (ht : TblOK Try.prog (tblV12 P D M N Q V I O)) : Computes A Try.prog 99 (fun x : F12 × F12 × Unit => addY P x.1 x.2.1) :=
  computes_of_run0 ht Try.func99 (by kernel_rfl) (by kernel_rfl) 8 (fun _ _ _ => by kernel_rfl)
theorem subY_of (P D M : F6 → F6 → F6) (N Q V I : F6 → F6) (O : F6) (ht : TblOK Try.prog (tblV12 P D M N Q V I O)) : Computes A Try.prog 100 (fun x : F12 × F12 × Unit => subY D x.1 x.2.1) :=
  computes_of_run0 ht Try.func100 (by kernel_rfl) (by kernel_rfl) 8 (fun _ _ _ => by kernel_rfl)
theorem mulY_of (P D M : F6 → F6 → F6) (N Q V I : F6 → F6) (O : F6) (ht : TblOK Try.prog (tblV12 P D M N Q V I O)) : Computes A Try.prog 93 (fun x : F12 × F12 × Unit => mulYr P D M V x.1 x.2.1) :=
  computes_of_run0 ht Try.func93 (by kernel_rfl) (by kernel_rfl) 8 (fun _ _ _ => by kernel_rfl)
theorem sqY_of (P D M : F6 → F6 → F6) (N Q V I : F6 → F6) (O : F6) (ht : TblOK Try.prog (tblV12 P D M N Q V I O)) : Computes A Try.prog 141 (fun x : F12 × Unit => sqYr P D M V x.1) :=
  computes_of_run0 ht Try.func141 (by kernel_rfl) (by kernel_rfl) 8 (fun _ _ _ => by kernel_rfl)
theorem conjY_of (P D M : F6 → F6 → F6) (N Q V I : F6 → F6) (O : F6) (ht : TblOK Try.prog (tblV12 P D M N Q V I O)) : Computes A Try.prog 94 (fun x : F12 × Unit => conjYr N x.1) :=
  computes_of_run0 ht Try.func94 (by kernel_rfl) (by kernel_rfl) 8 (fun _ _ _ => by kernel_rfl)
theorem invY_of (P D M : F6 → F6 → F6) (N Q V I : F6 → F6) (O : F6) (ht : TblOK Try.prog (tblV12 P D M N Q V I O)) : Computes A Try.prog 97 (fun x : F12 × Unit => invYr D M N Q V I x.1) :=
  computes_of_run0 ht Try.func97 (by kernel_rfl) (by kernel_rfl) 8 (fun _ _ _ => by kernel_rfl)
theorem oneY_of (P D M : F6 → F6 → F6) (N Q V I : F6 → F6) (O : F6) (ht : TblOK Try.prog (tblV12 P D M N Q V I O)) : Computes A Try.prog 98 (fun _ : Unit => oneYr O) :=
  computes_of_run0 ht Try.func98 (by kernel_rfl) (by kernel_rfl) 8 (fun _ _ _ => by kernel_rfl)
theorem eqY_of (Eq : F6 → F6 → Bool) (ht : TblOK Try.prog [rowOf A 70 (fun x : F6 × F6 × Unit => Eq x.1 x.2.1)]) : Computes A Try.prog 95 (fun x : F12 × F12 × Unit => Eq x.1.1 x.2.1.1 && Eq x.1.2 x.2.1.2) := by
  refine computes_of_run ht Try.func95 (by kernel_rfl) (by kernel_rfl) 8 ?_
  rintro _ ⟨⟨a1, a2⟩, ⟨b1, b2⟩, ⟨⟩⟩ W -
  cases h1 : Eq a1 b1 with
  | true =>
    cases h2 : Eq a2 b2 with
    | true => exact ⟨saysY [], _, [Eq a2 b2 = true, Eq a1 b1 = true], (by kernel_rfl : _ = some (some true, _)), ⟨h2, h1, trivial⟩, by simp [h1, h2]⟩
    | false => exact ⟨saysY [(15, false)], _, [Eq a2 b2 = false, Eq a1 b1 = true], (by kernel_rfl : _ = some (some false, _)), ⟨h2, h1, trivial⟩, by simp [h1, h2]⟩
  | false => exact ⟨saysY [(9, false)], _, [Eq a1 b1 = false], (by kernel_rfl : _ = some (some false, _)), ⟨h1, trivial⟩, by simp [h1]⟩

theorem isZY_of (Z : F6 → Bool) (ht : TblOK Try.prog [rowOf A 74 (fun x : F6 × Unit => Z x.1)]) : Computes A Try.prog 96 (fun x : F12 × Unit => Z x.1.1 && Z x.1.2) := by
  refine computes_of_run ht Try.func96 (by kernel_rfl) (by kernel_rfl) 8 ?_
  rintro _ ⟨⟨a1, a2⟩, ⟨⟩⟩ W -
  cases h1 : Z a1 with
  | true =>
    cases h2 : Z a2 with
    | true => exact ⟨saysY [], _, [Z a2 = true, Z a1 = true], (by kernel_rfl : _ = some (some true, _)), ⟨h2, h1, trivial⟩, by simp [h1, h2]⟩
    | false => exact ⟨saysY [(9, false)], _, [Z a2 = false, Z a1 = true], (by kernel_rfl : _ = some (some false, _)), ⟨h2, h1, trivial⟩, by simp [h1, h2]⟩
  | false => exact ⟨saysY [(5, false)], _, [Z a1 = false], (by kernel_rfl : _ = some (some false, _)), ⟨h1, trivial⟩, by simp [h1]⟩

end Go.Proofs.Ytbdbmcdcjejffaa
