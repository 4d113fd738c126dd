/- Slices of rows as a law's arguments; trees of noughts. -/
import Derived.Test.YtaloefkkllebeaaDoorSi0
import Derived.Test.YtaloefkkllebeaaDoorSc3
import Derived.Test.YtaloefkkllebeaaDoorEn3
set_option linter.unusedVariables false
set_option linter.unusedSimpArgs false
set_option linter.unusedSectionVars false
namespace Go.Sh
instance (n : Nat) : OpensArg A (Rs n) where
  shape := .rows n
  opens W v h := by
    obtain ⟨f, k, g, h1, h2, h3, rfl⟩ := h
    refine ⟨g, ⟨cutR n f k⟩, ⟨by rw [cutR_len]; exact h1, h2, fun a ha i hi => ?_⟩, by show spotVal k g = spotVal (cutR n f k).length g; rw [cutR_len]⟩
    rw [cutR_len] at hi
    rw [h3 a ha i hi, cutR_at _ _ _ _ hi]
end Go.Sh
namespace Go.Proofs.YtaloefkkllebeaaDoor
open Go Go.Sh
section
variable {Pr : R8 32 → R8 32 → R8 32}
def zeS (d : Int) (v : Nat → UInt8) (i : Nat) : St A :=
  ⟨slots 0 14 [(0, .val false [.n .i64 d]), (2, .val false [.p 0 0]), (3, .val false [.p 1 0]), (6, .val false [.n .i64 (mmI d)]), (7, .val false [.n .i64 (i : Int)])],
    [some ⟨zer8 32, 25, false⟩, some ⟨[.a (.w8 32 v)], 25, false⟩], 0, [], []⟩
def zeN (d : Int) : Nat := (mmI d).toNat
theorem zeN_eq (d : Int) : (zeN d : Int) = mmI d := by
  unfold zeN
  rw [mmI_eq]
  omega
section
variable (ht : TblOK Tryd.prog (tblSp' Pr)) {W : World} (hr : RoundsIn W.cell?) (d : Int) {c : Cfg A} (e1 : c.P = Tryd.prog) (e2 : c.gl = (fun _ => none)) (e3 : c.old = W.cell?) (e4 : c.ys = [])
include ht hr e1 e2 e3 e4
theorem zeS_one (v : Nat → UInt8) (i : Nat) (hi : i < zeN d) : Round c (loopNo Tryd.f55 3) (zeS d v i) .normal (zeS d (Pr ⟨v⟩ ⟨v⟩).f (i + 1)) := by
  have he := zeN_eq d
  have hm := mmI_eq d
  exact Round.of0 ht (says [(8, true)]) 6 [WrapI ((i : Int) + 1), RoundsIn W.cell?, decide ((i : Int) < mmI d) = true] (by kernel_rfl)
    ⟨wI (by omega) (by omega), hr, decide_eq_true (by omega), trivial⟩ (by kernel_rfl) (by kernel_rfl) e1 e2 e3 e4
theorem zeS_end (v : Nat → UInt8) : Round c (loopNo Tryd.f55 3) (zeS d v (zeN d)) (.exit 0) (zeS d v (zeN d)) := by
  have he := zeN_eq d
  exact Round.of0 ht (says [(8, false)]) 6 [decide ((zeN d : Int) < mmI d) = false] (by kernel_rfl)
    ⟨decide_eq_false (by omega), trivial⟩ (by kernel_rfl) (by kernel_rfl) e1 e2 e3 e4
end
theorem zero_of (ht : TblOK Tryd.prog (tblSp' Pr)) : Computes A Tryd.prog 55 (fun x : GA (Int × Unit) => zK Pr zR (zeN x.x.1)) := by
  refine computes_of_runW ht (ITblOK.nil _) Tryd.func55 (by kernel_rfl) (by kernel_rfl) 6 ?_
  rintro _ ⟨⟨d, ⟨⟩⟩⟩ W ⟨hr, _⟩
  have hs : SoundFor Tryd.prog W.cell? [] (.loop (loopNo Tryd.f55 3)) (zeS d zR.f 0) (.exit 0) (zeS d (zK Pr zR (zeN d)).f (zeN d)) := fun c q1 q2 q3 q4 =>
    loopAt (c := c) (inv := fun i => zeS d (zK Pr zR i).f i) (N := zeN d) (by simp) (fun i hi => zeS_one ht hr d q1 q2 q3 q4 _ i hi) (zeS_end ht hr d q1 q2 q3 q4 _)
  revert hs
  show SoundFor _ _ _ _ _ _ (zeS d (zK Pr zR (zeN d)).f (zeN d)) → _
  show _ → ∃ orc lp y vc, _ ∧ _ ∧ y = zK Pr zR (zeN d) ∧ _
  generalize zK Pr zR (zeN d) = w
  intro hs
  refine ⟨fun _ _ => .keep, lps [(3, zeS d zR.f 0, .exit 0, zeS d w.f (zeN d))], w, [ToldIs (zeS d zR.f 0)], by kernel_rfl, ⟨toldIs _, trivial⟩, rfl, fun body hb => ?_⟩
  obtain rfl := Option.some.inj hb
  exact LoopsFor.cons (by kernel_rfl) hs LoopsFor.nil
end
theorem zero_ok : Computes A Tryd.prog 55 (fun x : GA (Int × Unit) => zK pairR8 zR (zeN x.x.1)) := zero_of (.cons pair_ok.row (.nil _))
end Go.Proofs.YtaloefkkllebeaaDoor
