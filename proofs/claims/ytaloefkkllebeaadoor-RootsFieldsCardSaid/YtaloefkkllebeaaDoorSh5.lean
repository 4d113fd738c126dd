/- Branches: Verify's contract. -/
import Derived.Test.YtaloefkkllebeaaDoorSh4
set_option linter.unusedVariables false
set_option linter.unusedSimpArgs false
set_option linter.unusedSectionVars false
namespace Go.Sh
/-- The whole way, in two parts. -/
def restV (Pr : R8 32 → R8 32 → R8 32) (l : List (R8 32)) (v : Nat → UInt8) : Nat → (Nat → UInt8)
  | 0 => v
  | i + 1 => (Pr ⟨restV Pr l v i⟩ ⟨elM l i⟩).f
theorem restV_eq (Pr : R8 32 → R8 32 → R8 32) (l : List (R8 32)) (ix : UInt64) (f : Nat → UInt8) : ∀ i, i ≤ l.length - moreV l → restV Pr l (foldV Pr l ix f (moreV l)) i = foldV Pr l ix f (moreV l + i)
  | 0, _ => rfl
  | i + 1, h => by
    show (Pr ⟨restV Pr l _ i⟩ ⟨elM l i⟩).f = vStep Pr (sideB ix (moreV l + i)) (elL l (moreV l + i)) (foldV Pr l ix f (moreV l + i))
    rw [restV_eq Pr l ix f i (by omega), elM_eq, sideB_hi ix _ (by have := moreV_eq l; omega)]
    rfl
end Go.Sh
namespace Go.Proofs.YtaloefkkllebeaaDoor
open Go Go.Sh
noncomputable def itV (f r w : Nat → UInt8) (g : Spot) (l : List (R8 32)) (ix : UInt64) (n : Nat) : List (IRow A) := [iterW Tryd.prog [] [] (fun _ _ => .keep) (lps [(1, inV f r g l ix f 0, .exit 0, inV f r g l ix w n)]) 6 124 Tryd.f124]
theorem itV_ok (f r w : Nat → UInt8) (g : Spot) (l : List (R8 32)) (ix : UInt64) (n : Nat) : ITblOK Tryd.prog (itV f r w g l ix n) :=
  .cons (iterW_ok (TblOK.nil _) (ITblOK.nil _) _ _ 6 Tryd.func124 (by kernel_rfl) (by kernel_rfl)) (ITblOK.nil _)
theorem verify_of {Pr : R8 32 → R8 32 → R8 32} (ht : TblOK Tryd.prog (tblSp' Pr)) : Computes A Tryd.prog 59 (fun x : GA (R8 32 × Rt 32 × UInt64 × R8 32 × Unit) => merQ Pr x.x.1.f x.x.2.2.2.1.f x.x.2.1.l x.x.2.2.1) := by
  refine computes_of_runT Tryd.func59 (by kernel_rfl) (by kernel_rfl) 6 ?_
  rintro ⟨_, g, _⟩ ⟨⟨⟨f⟩, ⟨l⟩, ix, ⟨r⟩, ⟨⟩⟩⟩ W ⟨hr, _, ⟨hg, hn⟩, _⟩
  have hg : HasRows W l g := hg
  have hn : l.length < 1048576 := hn
  have ht' : TblOK Tryd.prog (stepsR :: tblSp' Pr) := .cons stepsR_ok ht
  have hs : ∀ sh, SoundFor Tryd.prog W.cell? [ysV f r g l ix sh] (.loop (loopNo Tryd.f124 1)) (inV f r g l ix f 0) (.exit 0) (inV f r g l ix (foldV Pr l ix f (moreV l)) (moreV l)) := fun sh c q1 q2 q3 q4 =>
    loopAt (c := c) (inv := fun i => inV f r g l ix (foldV Pr l ix f i) i) (N := moreV l) (by simp) (fun i hi => by have := moreV_eq l; exact inV_one ht f r g l ix hr hg hn sh q1 q2 q3 q4 _ i (by omega) (by omega)) (inV_end ht f r g l ix hr hg hn sh q1 q2 q3 q4 _)
  have h2 : SoundFor Tryd.prog W.cell? [] (.loop (loopNo Tryd.f59 11)) (moS f r g l ix (foldV Pr l ix f (moreV l)) 0) (.exit 2) (moS f r g l ix (foldV Pr l ix f l.length) (l.length - moreV l)) := by
    have e : foldV Pr l ix f l.length = restV Pr l (foldV Pr l ix f (moreV l)) (l.length - moreV l) := by
      rw [restV_eq Pr l ix f _ (Nat.le_refl _)]
      congr 1
      have := moreV_eq l
      omega
    rw [e]
    exact fun c q1 q2 q3 q4 => loopAt (c := c) (inv := fun i => moS f r g l ix (restV Pr l (foldV Pr l ix f (moreV l)) i) i) (N := l.length - moreV l) (by simp) (fun i hi => moS_one ht f r g l ix hr hg hn q1 q2 q3 q4 _ i hi) (moS_end ht f r g l ix hr hg hn q1 q2 q3 q4 _)
  have bd : (0 : Int) ≤ extI false (l.length : Int) 64 ∧ extI false (l.length : Int) 64 ≤ (l.length : Int) := by
    unfold extI
    simp only [Bool.false_eq_true, if_false]
    split <;> omega
  show ∃ tbl its, _ ∧ _ ∧ ∃ orc lp y vc, _ ∧ _ ∧ y = merQ Pr f r l ix ∧ _
  unfold merQ
  revert hs h2
  generalize foldV Pr l ix f (moreV l) = w
  generalize foldV Pr l ix f l.length = u
  generalize hN : moreV l = n
  intro hs h2
  have hb : ∀ sh, ∀ body, Tryd.f124.body = some body → LoopsFor Tryd.prog W.cell? [ysV f r g l ix sh] (lps [(1, inV f r g l ix f 0, .exit 0, inV f r g l ix w n)]) body := fun sh body hb => by
    obtain rfl := Option.some.inj hb
    exact LoopsFor.cons (by kernel_rfl) (hs sh) LoopsFor.nil
  have hb2 : ∀ body, Tryd.f59.body = some body → LoopsFor Tryd.prog W.cell? [] (lps [(11, moS f r g l ix w 0, .exit 2, moS f r g l ix u (l.length - n))]) body := fun body hb => by
    obtain rfl := Option.some.inj hb
    exact LoopsFor.cons (by kernel_rfl) h2 LoopsFor.nil
  clear hs h2
  subst hN
  have hc : (0 : Int) ≤ ((cvU (l.length : Int)).toNat : Int) := by omega
  cases hl : decide ((l.length : Int) < 64) with
  | false =>
    have e : beyQ l ix = false := by unfold beyQ; rw [hl]
    rw [e]
    exact ⟨_, _, ht', itV_ok f r w g l ix (moreV l), says [(16, false)], lps [(11, moS f r g l ix w 0, .exit 2, moS f r g l ix u (l.length - moreV l))], eqB u r 0 32,
      [ToldIs (moS f r g l ix w 0), (0 : Int) ≤ extI false (l.length : Int) 64 ∧ extI false (l.length : Int) 64 ≤ (l.length : Int), ∀ body, Tryd.f124.body = some body → LoopsFor Tryd.prog W.cell? [ysV f r g l ix false] (lps [(1, inV f r g l ix f 0, .exit 0, inV f r g l ix w (moreV l))]) body,
        ToldIs (inV f r g l ix f 0), decide ((l.length : Int) < 64) = false], by kernel_rfl, ⟨toldIs _, bd, hb false, toldIs _, hl, trivial⟩, rfl, hb2⟩
  | true =>
    cases hs : (((shW ix (l.length : Int)).toNat : Int) != 0) with
    | false =>
      have e : beyQ l ix = false := by unfold beyQ; rw [hl]; exact hs
      rw [e]
      exact ⟨_, _, ht', itV_ok f r w g l ix (moreV l), says [(16, true), (23, false)], lps [(11, moS f r g l ix w 0, .exit 2, moS f r g l ix u (l.length - moreV l))], eqB u r 0 32,
        [ToldIs (moS f r g l ix w 0), (0 : Int) ≤ extI false (l.length : Int) 64 ∧ extI false (l.length : Int) 64 ≤ (l.length : Int), ∀ body, Tryd.f124.body = some body → LoopsFor Tryd.prog W.cell? [ysV f r g l ix true] (lps [(1, inV f r g l ix f 0, .exit 0, inV f r g l ix w (moreV l))]) body,
          ToldIs (inV f r g l ix f 0), (((shW ix (l.length : Int)).toNat : Int) != 0) = false, (0 : Int) ≤ ((cvU (l.length : Int)).toNat : Int), decide ((l.length : Int) < 64) = true], by kernel_rfl, ⟨toldIs _, bd, hb true, toldIs _, hs, hc, hl, trivial⟩, rfl, hb2⟩
    | true =>
      have e : beyQ l ix = true := by unfold beyQ; rw [hl]; exact hs
      rw [e]
      exact ⟨_, _, ht', ITblOK.nil _, says [(16, true), (23, true)], noLoop, false, [(((shW ix (l.length : Int)).toNat : Int) != 0) = true, (0 : Int) ≤ ((cvU (l.length : Int)).toNat : Int), decide ((l.length : Int) < 64) = true], by kernel_rfl, ⟨hs, hc, hl, trivial⟩, rfl, fun body _ => loopsFor_none⟩
theorem verify_ok : Computes A Tryd.prog 59 (fun x : GA (R8 32 × Rt 32 × UInt64 × R8 32 × Unit) => merQ pairR8 x.x.1.f x.x.2.2.2.1.f x.x.2.1.l x.x.2.2.1) := verify_of (.cons pair_ok.row (.nil _))
theorem refVerify_ok : Computes A Tryd.prog 61 (fun x : Hs Mk × R8 32 × Rt 32 × UInt64 × R8 32 × Unit => verQ pairR8 x.2.1.f x.2.2.2.2.1.f x.2.2.1.l x.2.2.2.1) := refVerify_of (.cons makerPair_ok.row (.nil _))
theorem fold_ok : Computes A Tryd.prog 60 (fun x : Hs Mk × R8 32 × Rt 32 × UInt64 × Unit => (⟨foldV pairR8 x.2.2.1.l x.2.2.2.1 x.2.1.f x.2.2.1.l.length⟩ : R8 32)) := fold_of (.cons makerPair_ok.row (.nil _))
theorem hasher_ok : Computes A Tryd.prog 39 (fun _ : Unit => (⟨.mk⟩ : Hz Mk)) := by
  refine computes_of_run (.cons new_ok.row (.nil _)) Tryd.func39 (by kernel_rfl) (by kernel_rfl) 4 ?_
  rintro ⟨⟩ ⟨⟩ W -
  exact ⟨fun _ _ => .keep, ⟨.mk⟩, [TabsAre], by kernel_rfl, ⟨tabsAre, trivial⟩, rfl⟩
end Go.Proofs.YtaloefkkllebeaaDoor
