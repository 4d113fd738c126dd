/- Clock: the four statements, proved with no further conditions: for every input each of the four laws answers true and every argument reads behind the call as it read before. -/
import Derived.Test.YtpnlajkhjfpcjaaClD
import Derived.Test.YtpnlajkhjfpcjaaShJ
namespace Go.Proofs.Ytpnlajkhjfpcjaa
open Go Go.Sh Go.RowKit

theorem Fits.bytes : ∀ {n : Nat} {cs : List Value}, Fits (List.replicate n (Kd.int .u8)) cs → cs.length = n ∧ cs.all (·.oneCell') = true
  | 0, [], _ => ⟨rfl, rfl⟩
  | n + 1, v :: cs, ⟨⟨z, e, _⟩, h2⟩ => by
    subst e
    have := Fits.bytes h2
    exact ⟨by simp [this.1], by simp only [List.all_cons, this.2, Bool.and_true]; rfl⟩
  | 0, _ :: _, h => h.elim
  | _ + 1, [], h => h.elim

instance : Opens A Hd where
  kds := List.replicate 36 (.int .u8)
  opens cs h := ⟨⟨cs, Fits.bytes h⟩, rfl⟩

theorem Try.own : ownKnob Try.prog.godebug = none := by kernel_rfl
theorem Try.laidOut : laidOutB Try.prog = true := by kernel_rfl

def anyConf : Value := .agg #[.int .u8 0, .int .u8 0, .int .u8 0, .int .u8 0, .int .u8 0, .int .u8 0, .int .u8 0, .int .u8 0, .int .u8 0, .int .u8 0, .int .u8 0, .int .u8 0,
  .int .u8 0, .int .u8 0, .int .u8 0, .int .u8 0, .int .u8 0, .int .u8 0, .int .u8 0, .int .u8 0, .int .u8 0, .int .u8 0, .int .u8 0, .int .u8 0,
  .int .u8 0, .int .u8 0, .int .u8 0, .int .u8 0, .int .u8 0, .int .u8 0, .int .u8 0, .int .u8 0, .int .u8 0, .int .u8 0, .int .u8 0, .int .u8 0, .int .u64 0, .int .u64 0, .int .i64 0]

theorem two {H : Type} {ds : List (DataW H)} (h : ds.length = 2) : ∃ a b, ds = [a, b] := by
  match ds, h with
  | [a, b], _ => exact ⟨a, b, rfl⟩
theorem three {H : Type} {ds : List (DataW H)} (h : ds.length = 3) : ∃ a b c, ds = [a, b, c] := by
  match ds, h with
  | [a, b, c], _ => exact ⟨a, b, c, rfl⟩

theorem thresholds_lifted (os : Os) (started : os.Started) (H : Type) (enc : TypeId × Value → H) :
    ReturnsInHanded {} Try.checked os 5 .any (Rows.clockThresholdsSpec.pre6 enc Try.prog Try.f5 [] false) (Rows.clockThresholdsSpec.post enc Try.prog Try.f5 false true false false) :=
  law_flat (C := Try.checked) (tb := 4) rfl thresholds_ok 8 (by kernel_rfl) started Try.func5 (by kernel_rfl) (by kernel_rfl) Try.own (by kernel_rfl) Try.laidOut (by kernel_rfl) rfl (by kernel_rfl) (by kernel_rfl)
    (fun ds h => by obtain ⟨a, b, rfl⟩ := two h; rfl)
    (ChangeSpec.witness6 (enc := enc) (C := Try.checked) false ⟨#[], #[.int .u64 0, .int .u64 0], []⟩ 8 (by kernel_rfl) (by kernel_rfl) (by kernel_rfl) (by kernel_rfl))

theorem thresholds_holds : Rows.ClockThresholdsSaid :=
  OpenClaim.holds_of_wide 5 Try.f5 rfl rfl rfl rfl rfl rfl rfl ⟨rfl, rfl, rfl, rfl, rfl⟩ rfl rfl rfl rfl rfl (by kernel_rfl) Try.func5 (by kernel_rfl)
    (of_decide_eq_true (by kernel_rfl)) (by unfold Func.isWrapper; rw [if_neg (of_decide_eq_true (by kernel_rfl))]; exact ⟨rfl, rfl⟩)
    (fun os started H enc _ => thresholds_lifted os started H enc)

theorem tells_lifted (os : Os) (started : os.Started) (H : Type) (enc : TypeId × Value → H) :
    ReturnsInHanded {} Try.checked os 3 .any (Rows.clockTellsSpec.pre6 enc Try.prog Try.f3 [] false) (Rows.clockTellsSpec.post enc Try.prog Try.f3 false true false false) :=
  law_flat (C := Try.checked) (tb := 4) rfl tells_ok 8 (by kernel_rfl) started Try.func3 (by kernel_rfl) (by kernel_rfl) Try.own (by kernel_rfl) Try.laidOut (by kernel_rfl) rfl (by kernel_rfl) (by kernel_rfl)
    (fun ds h => by obtain ⟨a, b, rfl⟩ := two h; rfl)
    (ChangeSpec.witness6 (enc := enc) (C := Try.checked) false ⟨#[], #[anyConf, .int .u64 0], []⟩ 8 (by kernel_rfl) (by kernel_rfl) (by kernel_rfl) (by kernel_rfl))

theorem tells_holds : Rows.ClockTellsSaid :=
  OpenClaim.holds_of_wide 3 Try.f3 rfl rfl rfl rfl rfl rfl rfl ⟨rfl, rfl, rfl, rfl, rfl⟩ rfl rfl rfl rfl rfl (by kernel_rfl) Try.func3 (by kernel_rfl)
    (of_decide_eq_true (by kernel_rfl)) (by unfold Func.isWrapper; rw [if_neg (of_decide_eq_true (by kernel_rfl))]; exact ⟨rfl, rfl⟩)
    (fun os started H enc _ => tells_lifted os started H enc)

theorem periods_lifted (os : Os) (started : os.Started) (H : Type) (enc : TypeId × Value → H) :
    ReturnsInHanded {} Try.checked os 6 .any (Rows.clockPeriodsSpec.pre6 enc Try.prog Try.f6 [] false) (Rows.clockPeriodsSpec.post enc Try.prog Try.f6 false true false false) :=
  law_flat (C := Try.checked) (tb := 4) rfl periods_ok 8 (by kernel_rfl) started Try.func6 (by kernel_rfl) (by kernel_rfl) Try.own (by kernel_rfl) Try.laidOut (by kernel_rfl) rfl (by kernel_rfl) (by kernel_rfl)
    (fun ds h => by obtain ⟨a, b, rfl⟩ := two h; rfl)
    (ChangeSpec.witness6 (enc := enc) (C := Try.checked) false ⟨#[], #[anyConf, .int .u64 0], []⟩ 8 (by kernel_rfl) (by kernel_rfl) (by kernel_rfl) (by kernel_rfl))

theorem periods_holds : Rows.ClockPeriodsSaid :=
  OpenClaim.holds_of_wide 6 Try.f6 rfl rfl rfl rfl rfl rfl rfl ⟨rfl, rfl, rfl, rfl, rfl⟩ rfl rfl rfl rfl rfl (by kernel_rfl) Try.func6 (by kernel_rfl)
    (of_decide_eq_true (by kernel_rfl)) (by unfold Func.isWrapper; rw [if_neg (of_decide_eq_true (by kernel_rfl))]; exact ⟨rfl, rfl⟩)
    (fun os started H enc _ => periods_lifted os started H enc)

theorem deadlines_lifted (os : Os) (started : os.Started) (H : Type) (enc : TypeId × Value → H) :
    ReturnsInHanded {} Try.checked os 4 .any (Rows.clockDeadlinesSpec.pre6 enc Try.prog Try.f4 [] false) (Rows.clockDeadlinesSpec.post enc Try.prog Try.f4 false true false false) :=
  law_flat (C := Try.checked) (tb := 4) rfl deadlines_ok 8 (by kernel_rfl) started Try.func4 (by kernel_rfl) (by kernel_rfl) Try.own (by kernel_rfl) Try.laidOut (by kernel_rfl) rfl (by kernel_rfl) (by kernel_rfl)
    (fun ds h => by obtain ⟨a, b, c, rfl⟩ := three h; rfl)
    (ChangeSpec.witness6 (enc := enc) (C := Try.checked) false ⟨#[], #[anyConf, .int .u64 0, .bool false], []⟩ 8 (by kernel_rfl) (by kernel_rfl) (by kernel_rfl) (by kernel_rfl))

theorem deadlines_holds : Rows.ClockDeadlinesSaid :=
  OpenClaim.holds_of_wide 4 Try.f4 rfl rfl rfl rfl rfl rfl rfl ⟨rfl, rfl, rfl, rfl, rfl⟩ rfl rfl rfl rfl rfl (by kernel_rfl) Try.func4 (by kernel_rfl)
    (of_decide_eq_true (by kernel_rfl)) (by unfold Func.isWrapper; rw [if_neg (of_decide_eq_true (by kernel_rfl))]; exact ⟨rfl, rfl⟩)
    (fun os started H enc _ => deadlines_lifted os started H enc)

end Go.Proofs.Ytpnlajkhjfpcjaa
