/- Fp6's equality and noughts; fp12 over variable functions of three parts. -/
import Derived.Test.YtbdbmcdcjejffaaGreatGe1
set_option linter.unusedVariables false
set_option linter.unusedSimpArgs false
set_option linter.unusedSectionVars false
namespace Go.Proofs.YtbdbmcdcjejffaaGreat
open Go Go.Sh

/-- A row that says what it answers, by how much memory there is: what it says is asked for. -/
def rowTell (A : Type) [Atom A] {Γ : Type} [Args A Γ] [Ret A Bool] (g : FuncId) (f : Γ → Bool) (d : Nat → Bool) : Row A where
  g := g
  e := fun old args m =>
    match Args.parse old m args with
    | some (x, vc) => some (Ret.tv (d m.length), none, (f x = d m.length) :: vc)
    | none => none
theorem rowTell_ok {P : Program} {Γ : Type} [Args A Γ] {g : FuncId} {f : Γ → Bool} (h : Computes A P g f) (d : Nat → Bool) : RowOK P (rowTell A g f d) := by
  intro c args m res mm vc _ he hvc X W0 W β vs _ hm hvs
  simp only [rowTell] at he
  split at he
  · rename_i x vc' hx
    simp at he
    obtain ⟨rfl, rfl, rfl⟩ := he
    have e : f x = d m.length := hvc _ (by simp)
    obtain ⟨gh, hg, rfl⟩ := Args.ok hx (fun p hp => hvc p (by simp [hp])) hm hvs
    refine (h gh x W hg).mono (fun v W' hv => ?_)
    obtain ⟨K, k1, k2⟩ := Ret.is hv.1
    exact ⟨K, k1, by rw [← e]; exact k2 β, hv.2⟩
  · cases he

theorem eqV_of (Eq : F2 → F2 → Bool) (ht : TblOK Tryz.prog [rowOf A 62 (fun x : F2 × F2 × Unit => Eq x.1 x.2.1)]) : Computes A Tryz.prog 40 (fun x : F6 × F6 × Unit => Eq x.1.1 x.2.1.1 && Eq x.1.2.1 x.2.1.2.1 && Eq x.1.2.2 x.2.1.2.2) := by
  refine computes_of_run ht Tryz.func40 (by kernel_rfl) (by kernel_rfl) 8 ?_
  rintro _ ⟨⟨a1, a2, a3⟩, ⟨b1, b2, b3⟩, ⟨⟩⟩ W -
  cases h1 : Eq a1 b1 with
  | false => exact ⟨saysY [(9, false)], _, [Eq a1 b1 = false], (by kernel_rfl : _ = some (some false, _)), ⟨h1, trivial⟩, by simp [h1]⟩
  | true =>
    cases h2 : Eq a2 b2 with
    | false => exact ⟨saysY [(15, false)], _, [Eq a2 b2 = false, Eq a1 b1 = true], (by kernel_rfl : _ = some (some false, _)), ⟨h2, h1, trivial⟩, by simp [h2]⟩
    | true =>
      cases h3 : Eq a3 b3 with
      | false => exact ⟨saysY [(22, false)], _, [Eq a3 b3 = false, Eq a2 b2 = true, Eq a1 b1 = true], (by kernel_rfl : _ = some (some false, _)), ⟨h3, h2, h1, trivial⟩, by simp [h3]⟩
      | true => exact ⟨saysY [], _, [Eq a3 b3 = true, Eq a2 b2 = true, Eq a1 b1 = true], (by kernel_rfl : _ = some (some true, _)), ⟨h3, h2, h1, trivial⟩, by simp [h1, h2, h3]⟩

theorem isZV_of (Z : F2 → Bool) (hZ : Computes A Tryz.prog 64 (fun x : F2 × Unit => Z x.1)) : Computes A Tryz.prog 41 (fun x : F6 × Unit => Z x.1.1 && Z x.1.2.1 && Z x.1.2.2) := by
  refine computes_of_runT Tryz.func41 (by kernel_rfl) (by kernel_rfl) 8 ?_
  rintro _ ⟨⟨a1, a2, a3⟩, ⟨⟩⟩ W -
  have ok : ∀ d, TblOK Tryz.prog [rowTell A 64 (fun x : F2 × Unit => Z x.1) d, rowIn Tryz.prog [] [] (fun _ _ => .keep) 4 63 Tryz.f63] := fun d =>
    .cons (rowTell_ok hZ d) (.cons (rowIn_ok (TblOK.nil _) (ITblOK.nil _) _ 4 Tryz.func63 (by kernel_rfl) (by kernel_rfl)) (.nil _))
  have iok : ITblOK (A := A) Tryz.prog [iter Tryz.prog [] [] (fun _ _ => .keep) 4 85 Tryz.f85] := ITblOK.cons (iter_ok (TblOK.nil _) (ITblOK.nil _) _ 4 Tryz.func85 (by kernel_rfl) (by kernel_rfl)) (ITblOK.nil _)
  have no : ∀ body, Tryz.f41.body = some body → LoopsFor (A := A) Tryz.prog W.cell? [] noLoop body := fun body _ => loopsFor_none
  cases h1 : Z a1 with
  | false => exact ⟨_, _, ok (fun n => !(Nat.beq n 5)), iok, fun _ _ => .eval, noLoop, _, [Z a1 = false], (by kernel_rfl : _ = some (some false, _)), ⟨h1, trivial⟩, by simp [h1], no⟩
  | true =>
    cases h2 : Z a2 with
    | false => exact ⟨_, _, ok (fun n => !(Nat.beq n 6)), iok, fun _ _ => .eval, noLoop, _, [Z a2 = false, Z a1 = true], (by kernel_rfl : _ = some (some false, _)), ⟨h2, h1, trivial⟩, by simp [h2], no⟩
    | true =>
      cases h3 : Z a3 with
      | false => exact ⟨_, _, ok (fun n => !(Nat.beq n 7)), iok, fun _ _ => .eval, noLoop, _, [Z a3 = false, Z a2 = true, Z a1 = true], (by kernel_rfl : _ = some (some false, _)), ⟨h3, h2, h1, trivial⟩, by simp [h3], no⟩
      | true => exact ⟨_, _, ok (fun n => !(Nat.beq n 9)), iok, fun _ _ => .eval, noLoop, _, [Z a3 = true, Z a2 = true, Z a1 = true], (by kernel_rfl : _ = some (some true, _)), ⟨h3, h2, h1, trivial⟩, by simp [h1, h2, h3], no⟩

abbrev F12 := F6 × F6
def zeroV : F6 := ((0, 0), (0, 0), (0, 0))
section
variable (P D M : F6 → F6 → F6) (N Q V I : F6 → F6) (O : F6)
noncomputable def tblV12 (P D M : F6 → F6 → F6) (N Q V I : F6 → F6) (O : F6) : List (Row A) :=
  [rowOf A 28 (fun x : F6 × F6 × Unit => P x.1 x.2.1),
    rowOf A 30 (fun x : F6 × F6 × Unit => D x.1 x.2.1),
    rowOf A 32 (fun x : F6 × F6 × Unit => M x.1 x.2.1),
    rowOf A 36 (fun x : F6 × Unit => N x.1),
    rowOf A 37 (fun x : F6 × Unit => Q x.1),
    rowOf A 33 (fun x : F6 × Unit => V x.1),
    rowOf A 38 (fun x : F6 × Unit => I x.1),
    rowOf A 21 (fun _ : Unit => O)]
def addY (a b : F12) : F12 := ((P a.1 b.1), (P a.2 b.2))
def subY (a b : F12) : F12 := ((D a.1 b.1), (D a.2 b.2))
def mulYr (a b : F12) : F12 := ((P (M a.1 b.1) (V (M a.2 b.2))), (D (D (M (P a.1 a.2) (P b.1 b.2)) (M a.1 b.1)) (M a.2 b.2)))
def sqYr (a : F12) : F12 := ((D (D (M (P a.1 a.2) (P a.1 (V a.2))) (M a.1 a.2)) (V (M a.1 a.2))), (P (M a.1 a.2) (M a.1 a.2)))
def conjYr (a : F12) : F12 := (a.1, (N a.2))
def invYr (a : F12) : F12 := ((M a.1 (I (D (Q a.1) (V (Q a.2))))), (M (N a.2) (I (D (Q a.1) (V (Q a.2))))))
def oneYr  : F12 := (O, zeroV)
end
theorem addY_of (P D M : F6 → F6 → F6) (N Q V I : F6 → F6) (O : F6) (ht : TblOK Tryz.prog (tblV12 P D M N Q V I O)) : Computes A Tryz.prog 8 (fun x : F12 × F12 × Unit => addY P x.1 x.2.1) :=
  computes_of_run0 ht Tryz.func8 (by kernel_rfl) (by kernel_rfl) 8 (fun _ _ _ => by kernel_rfl)
theorem subY_of (P D M : F6 → F6 → F6) (N Q V I : F6 → F6) (O : F6) (ht : TblOK Tryz.prog (tblV12 P D M N Q V I O)) : Computes A Tryz.prog 10 (fun x : F12 × F12 × Unit => subY D x.1 x.2.1) :=
  computes_of_run0 ht Tryz.func10 (by kernel_rfl) (by kernel_rfl) 8 (fun _ _ _ => by kernel_rfl)
theorem mulY_of (P D M : F6 → F6 → F6) (N Q V I : F6 → F6) (O : F6) (ht : TblOK Tryz.prog (tblV12 P D M N Q V I O)) : Computes A Tryz.prog 12 (fun x : F12 × F12 × Unit => mulYr P D M V x.1 x.2.1) :=
  computes_of_run0 ht Tryz.func12 (by kernel_rfl) (by kernel_rfl) 8 (fun _ _ _ => by kernel_rfl)
theorem sqY_of (P D M : F6 → F6 → F6) (N Q V I : F6 → F6) (O : F6) (ht : TblOK Tryz.prog (tblV12 P D M N Q V I O)) : Computes A Tryz.prog 14 (fun x : F12 × Unit => sqYr P D M V x.1) :=
  computes_of_run0 ht Tryz.func14 (by kernel_rfl) (by kernel_rfl) 8 (fun _ _ _ => by kernel_rfl)
theorem conjY_of (P D M : F6 → F6 → F6) (N Q V I : F6 → F6) (O : F6) (ht : TblOK Tryz.prog (tblV12 P D M N Q V I O)) : Computes A Tryz.prog 15 (fun x : F12 × Unit => conjYr N x.1) :=
  computes_of_run0 ht Tryz.func15 (by kernel_rfl) (by kernel_rfl) 8 (fun _ _ _ => by kernel_rfl)
theorem invY_of (P D M : F6 → F6 → F6) (N Q V I : F6 → F6) (O : F6) (ht : TblOK Tryz.prog (tblV12 P D M N Q V I O)) : Computes A Tryz.prog 17 (fun x : F12 × Unit => invYr D M N Q V I x.1) :=
  computes_of_run0 ht Tryz.func17 (by kernel_rfl) (by kernel_rfl) 8 (fun _ _ _ => by kernel_rfl)
theorem oneY_of (P D M : F6 → F6 → F6) (N Q V I : F6 → F6) (O : F6) (ht : TblOK Tryz.prog (tblV12 P D M N Q V I O)) : Computes A Tryz.prog 23 (fun _ : Unit => oneYr O) :=
  computes_of_run0 ht Tryz.func23 (by kernel_rfl) (by kernel_rfl) 8 (fun _ _ _ => by kernel_rfl)
theorem eqY_of (Eq : F6 → F6 → Bool) (ht : TblOK Tryz.prog [rowOf A 40 (fun x : F6 × F6 × Unit => Eq x.1 x.2.1)]) : Computes A Tryz.prog 19 (fun x : F12 × F12 × Unit => Eq x.1.1 x.2.1.1 && Eq x.1.2 x.2.1.2) := by
  refine computes_of_run ht Tryz.func19 (by kernel_rfl) (by kernel_rfl) 8 ?_
  rintro _ ⟨⟨a1, a2⟩, ⟨b1, b2⟩, ⟨⟩⟩ W -
  cases h1 : Eq a1 b1 with
  | true =>
    cases h2 : Eq a2 b2 with
    | true => exact ⟨saysY [], _, [Eq a2 b2 = true, Eq a1 b1 = true], (by kernel_rfl : _ = some (some true, _)), ⟨h2, h1, trivial⟩, by simp [h1, h2]⟩
    | false => exact ⟨saysY [(15, false)], _, [Eq a2 b2 = false, Eq a1 b1 = true], (by kernel_rfl : _ = some (some false, _)), ⟨h2, h1, trivial⟩, by simp [h1, h2]⟩
  | false => exact ⟨saysY [(9, false)], _, [Eq a1 b1 = false], (by kernel_rfl : _ = some (some false, _)), ⟨h1, trivial⟩, by simp [h1]⟩

theorem isZY_of (Z : F6 → Bool) (ht : TblOK Tryz.prog [rowOf A 41 (fun x : F6 × Unit => Z x.1)]) : Computes A Tryz.prog 20 (fun x : F12 × Unit => Z x.1.1 && Z x.1.2) := by
  refine computes_of_run ht Tryz.func20 (by kernel_rfl) (by kernel_rfl) 8 ?_
  rintro _ ⟨⟨a1, a2⟩, ⟨⟩⟩ W -
  cases h1 : Z a1 with
  | true =>
    cases h2 : Z a2 with
    | true => exact ⟨saysY [], _, [Z a2 = true, Z a1 = true], (by kernel_rfl : _ = some (some true, _)), ⟨h2, h1, trivial⟩, by simp [h1, h2]⟩
    | false => exact ⟨saysY [(9, false)], _, [Z a2 = false, Z a1 = true], (by kernel_rfl : _ = some (some false, _)), ⟨h2, h1, trivial⟩, by simp [h1, h2]⟩
  | false => exact ⟨saysY [(5, false)], _, [Z a1 = false], (by kernel_rfl : _ = some (some false, _)), ⟨h1, trivial⟩, by simp [h1]⟩

end Go.Proofs.YtbdbmcdcjejffaaGreat
