/- SHA-256: the law of lengths. -/
import Derived.Test.YtaloefkkllebeaaDoorSg2
import Derived.Test.YtaloefkkllebeaaDoorTc
import Derived.Test.YtaloefkkllebeaaDoorTk
set_option linter.unusedVariables false
set_option linter.unusedSimpArgs false
set_option linter.unusedSectionVars false
set_option maxRecDepth 100000
namespace Go.Sh
def lnB (x : UInt8) (i : Nat) : UInt8 := UInt8.ofNat (((x.toNat : Int) + ((UInt8.ofNat ((i : Int) % 256).toNat).toNat : Int)) % 256).toNat
/-- So many bytes written. -/
def lnF (x : UInt8) : Nat → Nat → UInt8
  | 0 => fun _ => UInt8.ofNat ((0 : Int) % 256).toNat
  | i + 1 => upd (lnF x i) i (lnB x i)
def zL (n : Nat) (f : Nat → UInt8) : List UInt8 := (List.range n).map fun j => u8of ((Atom.get (At.z8 n f : A) j).getD Atom.dummy)
theorem zL_len (n : Nat) (f : Nat → UInt8) : (zL n f).length = n := by simp [zL]
end Go.Sh
namespace Go.Proofs.YtaloefkkllebeaaDoor
open Go Go.Sh
noncomputable def tblSl (S : List UInt8 → R8 32) (Wk : List UInt8 → Int → List UInt8) : List (Row A) :=
  [rowOf A 24 (fun _ : GA Unit => true), rowOf A 31 (fun x : Int × Ps × Unit => placeV x.1 x.2.1.z), rowOf A 26 (fun x : GA (Bs × Unit) => S x.x.1.l), rowOf A 28 (fun x : Ptr Mk × Bt × Unit => S x.2.1.l),
    rowOf A 27 (fun _ : Unit => (⟨.mk⟩ : Pz Mk)), rowOf A 32 (fun x : Bt × Int × Unit => (⟨Wk x.1.l x.2.1⟩ : Bz))]
def lnS (P : Int) (x : UInt8) (f : Nat → UInt8) (i : Nat) : St A :=
  ⟨slots 0 42 [(0, .val false [.n .i64 P]), (1, .val false [.a (.u8 x)]), (4, .val false [.v (.bool false)]), (5, .val false [.s 0 0 P.toNat P.toNat]), (6, .val false [.n .i64 (i : Int)])], [some ⟨[.a (.z8 P.toNat f)], 5, false⟩], 0, [], []⟩
theorem shaLengths_of {S : List UInt8 → R8 32} {Wk : List UInt8 → Int → List UInt8} (ht : TblOK Tryd.prog (tblSl S Wk)) (hW : ∀ l : List UInt8, l.length < 300 → ((Wk l 100).length : Int) = 64 * (((l.length : Int) + 8).tdiv 64 + 1)) :
    Computes A Tryd.prog 7 (fun _ : GA (Int × UInt8 × Unit) => true) := by
  refine computes_of_runW ht (ITblOK.nil _) Tryd.func7 (by kernel_rfl) (by kernel_rfl) 6 ?_
  rintro _ ⟨⟨z, x, ⟨⟩⟩⟩ W ⟨hr, _⟩
  obtain ⟨p1, p2⟩ := placeV_ok z (n := 300) (by decide)
  have hs : SoundFor Tryd.prog W.cell? [] (.loop (loopNo Tryd.f7 6)) (lnS (placeV z 300) x (lnF x 0) 0) (.exit 0) (lnS (placeV z 300) x (lnF x (placeV z 300).toNat) (placeV z 300).toNat) := by
    revert p1 p2
    generalize placeV z 300 = P
    intro p1 p2 c e1 e2 e3 e4
    exact loopAt (c := c) (inv := fun i => lnS P x (lnF x i) i) (N := P.toNat) (by simp)
      (fun i hi => by
        show Round c _ (lnS P x (lnF x i) i) .normal (lnS P x (upd (lnF x i) i (lnB x i)) (i + 1))
        generalize lnF x i = f
        exact Round.of0 (TblOK.nil _) (saysY []) 6 [WrapI ((i : Int) + 1), P.toNat = P.toNat, IX (i : Int) P.toNat, decide ((i : Int) < P) = true] (by kernel_rfl)
          ⟨wI (by omega) (by omega), rfl, ⟨by omega, by omega⟩, decide_eq_true (by omega), trivial⟩ (by kernel_rfl) (by kernel_rfl) e1 e2 e3 e4)
      (by
        generalize lnF x P.toNat = f
        exact Round.of0 (TblOK.nil _) (saysY [(15, false)]) 6 [decide ((P.toNat : Int) < P) = false] (by kernel_rfl) ⟨decide_eq_false (by omega), trivial⟩ (by kernel_rfl) (by kernel_rfl) e1 e2 e3 e4)
  revert hs
  generalize lnF x (placeV z 300).toNat = f
  intro hs
  have hl := zL_len (placeV z 300).toNat f
  have hw := hW (zL (placeV z 300).toNat f) (by rw [hl]; omega)
  rw [hl] at hw
  have e8 : (placeV z 300 + 8).tdiv 64 = (((placeV z 300).toNat : Int) + 8).tdiv 64 := by rw [Int.toNat_of_nonneg p1]
  have q0 : 0 ≤ (placeV z 300 + 8).tdiv 64 ∧ (placeV z 300 + 8).tdiv 64 ≤ 4 := by
    have e : (((placeV z 300).toNat : Int) + 8).tdiv 64 = ((((placeV z 300).toNat + 8) / 64 : Nat) : Int) := rfl
    rw [e8, e]
    omega
  have hu : ∀ j, j < (placeV z 300).toNat → isU8 ((Atom.get (At.z8 (placeV z 300).toNat f : A) j).getD Atom.dummy) = true := fun j _ => rfl
  refine ⟨saysY [], lps [(6, lnS (placeV z 300) x (lnF x 0) 0, .exit 0, lnS (placeV z 300) x f (placeV z 300).toNat)], true, [
      (((Wk (zL (placeV z 300).toNat f) 100).length : Int) == 64 * ((placeV z 300 + 8).tdiv 64 + 1)) = true, WrapI (64 * ((placeV z 300 + 8).tdiv 64 + 1)), WrapI ((placeV z 300 + 8).tdiv 64 + 1), WrapI ((placeV z 300 + 8).tdiv 64), WrapI (placeV z 300 + 8),
      (zL (placeV z 300).toNat f).length < 1048576, (placeV z 300).toNat = (placeV z 300).toNat, (placeV z 300).toNat ≤ (placeV z 300).toNat, ∀ j, j < (placeV z 300).toNat → isU8 ((Atom.get (At.z8 (placeV z 300).toNat f : A) j).getD Atom.dummy) = true,
      eqB (S (zL (placeV z 300).toNat f)).f (S (zL (placeV z 300).toNat f)).f 0 32 = true, TabsAre, (zL (placeV z 300).toNat f).length < 1048576, (placeV z 300).toNat = (placeV z 300).toNat, (placeV z 300).toNat ≤ (placeV z 300).toNat, ∀ j, j < (placeV z 300).toNat → isU8 ((Atom.get (At.z8 (placeV z 300).toNat f : A) j).getD Atom.dummy) = true,
      RoundsIn W.cell?, (placeV z 300).toNat = (placeV z 300).toNat, (placeV z 300).toNat ≤ (placeV z 300).toNat, ∀ j, j < (placeV z 300).toNat → isU8 ((Atom.get (At.z8 (placeV z 300).toNat f : A) j).getD Atom.dummy) = true, ToldIs (lnS (placeV z 300) x (lnF x 0) 0), Makes 1 (placeV z 300) (placeV z 300), (0 : Int) < 300 ∧ (300 : Int) ≤ 4611686018427387904, true = true, RoundsIn W.cell?], by kernel_rfl,
    ⟨by rw [hw, e8]; exact beq_self_eq_true _, wI (by omega) (by omega), wI (by omega) (by omega), wI (by omega) (by omega), wI (by omega) (by omega), by rw [hl]; omega, rfl, Nat.le_refl _, hu, eqB_self _ _ _, tabsAre, by rw [hl]; omega, rfl, Nat.le_refl _, hu, hr, rfl, Nat.le_refl _, hu, toldIs _, ⟨rfl, p1, by omega, by omega⟩, by decide, rfl, hr, trivial⟩, rfl, fun body hb => ?_⟩
  obtain rfl := Option.some.inj hb
  exact LoopsFor.cons (by kernel_rfl) hs LoopsFor.nil
theorem walk_len {l : List UInt8} (h : l.length < 300) : ((((padL l).take (64 * wkN l 100)).length : Nat) : Int) = 64 * (((l.length : Int) + 8).tdiv 64 + 1) := by
  have e : ((l.length : Int) + 8).tdiv 64 = (((l.length + 8) / 64 : Nat) : Int) := rfl
  have hp : (padL l).length = 64 * ((l.length + 8) / 64 + 1) := by rw [padL_len]; unfold zerosN; omega
  have hk : wkN l 100 = (l.length + 8) / 64 + 1 := by
    unfold wkN
    rw [hp, Nat.mul_div_cancel_left _ (by decide)]
    have : (100 : Int).toNat = 100 := rfl
    rw [this]
    omega
  rw [List.length_take, hk, hp, Nat.min_self, e]
  omega
theorem shaLengths_ok : Computes A Tryd.prog 7 (fun _ : GA (Int × UInt8 × Unit) => true) :=
  shaLengths_of (S := sumL) (Wk := fun l m => (padL l).take (64 * wkN l m)) (.cons known_ok.row (.cons place_ok.row (.cons sum_ok.row (.cons refSum_ok.row (.cons new_ok.row (.cons walk_ok.row (.nil _))))))) (fun l h => walk_len h)
end Go.Proofs.YtaloefkkllebeaaDoor
