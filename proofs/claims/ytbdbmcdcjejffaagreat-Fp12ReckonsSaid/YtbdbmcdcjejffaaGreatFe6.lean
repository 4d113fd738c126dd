/- The law of the signs. -/
import Derived.Test.YtbdbmcdcjejffaaGreatFe5
set_option linter.unusedVariables false
set_option linter.unusedSimpArgs false
set_option linter.unusedSectionVars false
namespace Go.Proofs.YtbdbmcdcjejffaaGreat
open Go Go.Sh

theorem neg_val {a : Fp} (h : a ≠ 0) : (-a).val = pN - a.val := by
  have hv : a.val ≠ 0 := fun e => h (Fin.ext e)
  have hl := a.isLt
  show (pN - a.val) % pN = pN - a.val
  exact Nat.mod_eq_of_lt (by omega)
theorem odd_neg {a : Fp} (h : a ≠ 0) : oddF (-a) = !oddF a := by
  unfold oddF
  rw [neg_val h]
  have hl := a.isLt
  have hp : pN % 2 = 1 := by rw [pN_val]
  by_cases e : a.val % 2 = 1
  · rw [decide_eq_true e, decide_eq_false (by omega)]; rfl
  · rw [decide_eq_false e, decide_eq_true (by omega)]; rfl
theorem large_neg {a : Fp} (h : a ≠ 0) : largeF (-a) = !largeF a := by
  unfold largeF
  rw [neg_val h]
  have hl := a.isLt
  have hv : a.val ≠ 0 := fun e => h (Fin.ext e)
  have hp : pN % 2 = 1 := by rw [pN_val]
  by_cases e : (pN - 1) / 2 < a.val
  · rw [decide_eq_true e, decide_eq_false (by omega)]; rfl
  · rw [decide_eq_false e, decide_eq_true (by omega)]; rfl

structure SignsIs (R N : Fp → Fp) (Od Lg Z rO rL : Fp → Bool) : Prop where
  h1 : ∀ a, rO (R a) = Od a
  h2 : ∀ a, rL (R a) = Lg a
  h3 : ∀ a, Z a = true → Od a = false ∧ Lg a = false
  h4 : ∀ a, Z a = false → Od (N a) = !Od a
  h5 : ∀ a, Z a = false → Lg (N a) = !Lg a

end Go.Proofs.YtbdbmcdcjejffaaGreat

/- The reference's parity; its powers of two of p. -/
namespace Go.Proofs.YtbdbmcdcjejffaaGreat
open Go Go.Sh

def tblRO : List (Row A) := []
theorem tblRO_ok : TblOK Tryz.prog tblRO := .nil _
def tblSh : List (Row A) := [rowOf A 73 (fun _ : Unit => p6), rowOf A 72 (fun x : L6 × L6 × Unit => T2.mk (sub6 x.1 x.2.1) (subTop x.1 x.2.1)), rowOf A 71 (fun x : L6 × L6 × Unit => T2.mk (add6 x.1 x.2.1) (addTop x.1 x.2.1)), rowOf A 103 (fun x : L6 × Unit => bytesL6 x.1)]
theorem tblSh_ok : TblOK Tryz.prog tblSh := .cons refPL_ok.row (.cons refSubL_ok.row (.cons refAddL_ok.row (.cons refBytesL_ok.row (.nil _))))
noncomputable def shRow : Row A := rowIn Tryz.prog tblSh [] (fun _ _ => .keep) 12 100 Tryz.f100
theorem shRow_ok : RowOK Tryz.prog shRow := rowIn_ok tblSh_ok (ITblOK.nil _) _ 12 Tryz.func100 (by kernel_rfl) (by kernel_rfl)

end Go.Proofs.YtbdbmcdcjejffaaGreat

/- The reference's size. -/
namespace Go.Proofs.YtbdbmcdcjejffaaGreat
open Go Go.Sh

/-- The bytes that shifted tells. -/
noncomputable def shL (add : Int) (n : Nat) : List UInt8 :=
  match shRow.e (fun _ => none) [.val false [.v (.int .i64 add)], .val false [.v (.int .u64 n)]] [] with
  | some (.val false [.s j _ _ _], some m, _) => (match nth m j with | some (some b) => (match bytesL (flat b.cells) with | some l => l | none => []) | _ => [])
  | _ => []
theorem shL_half : numB (shL (-1) 1) = (pN - 1) / 2 := by kernel_rfl
theorem shL_less2 : numB (shL (-2) 0) = pN - 2 := by kernel_rfl
theorem shL_quarter : numB (shL 1 2) = (pN + 1) / 4 := by kernel_rfl
theorem shL_len : (shL (-1) 1).length = 48 ∧ (shL (-2) 0).length = 48 ∧ (shL 1 2).length = 48 := ⟨by kernel_rfl, by kernel_rfl, by kernel_rfl⟩

end Go.Proofs.YtbdbmcdcjejffaaGreat

/- The reference's size: the contract. -/
namespace Go.Proofs.YtbdbmcdcjejffaaGreat
open Go Go.Sh

noncomputable def tblLg : List (Row A) := [shRow, rowOf A 69 (fun x : Bs × Unit => fromB x.1.l)]
theorem tblLg_ok : TblOK Tryz.prog tblLg := .cons shRow_ok (.cons refFrom_ok.row (.nil _))
theorem fromB_of {l : List UInt8} {n : Nat} (h : l.length = 48) (hn : numB l = n) : (fromB l).a.val = n := by
  show (numOfB l).val = n
  unfold numOfB
  rw [dif_pos (by omega)]
  exact hn
theorem large_of {m : Num} (a : Fp) (h : m.val = (pN - 1) / 2) : decide (m < fpNum a) = largeF a := by
  show decide (m.val < a.val) = _
  rw [h]; rfl
end Go.Proofs.YtbdbmcdcjejffaaGreat

/- FpSigns, out of the contracts. -/
namespace Go.Proofs.YtbdbmcdcjejffaaGreat
open Go Go.Sh

end Go.Proofs.YtbdbmcdcjejffaaGreat
