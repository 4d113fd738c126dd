/- The scalar field: the examples. -/
import Derived.Test.YtaloefkkllebeaaFa8
set_option linter.unusedVariables false
set_option linter.unusedSimpArgs false
set_option linter.unusedSectionVars false
namespace Go.Proofs.Ytaloefkkllebeaa
open Go Go.Sh
/-- The number of the element 6, as it is. -/
def sixRow : Row A where
  g := 62
  e := fun old args m =>
    match Args.parse (A := A) (Γ := Fq × Unit) old m args with
    | some (x, vc) => some (.val true [.v (.int .u64 6), lit0, lit0, lit0, lit0, lit0], none, (numL (fqNum x.1) = (UInt64.ofNat 6, UInt64.ofNat 0, UInt64.ofNat 0, UInt64.ofNat 0, UInt64.ofNat 0, UInt64.ofNat 0)) :: vc)
    | none => none
theorem sixRow_ok : RowOK Try.prog sixRow := by
  intro c args m res mm vc hP he hvc X W0 W β vs hgl hm hvs
  simp only [sixRow] at he
  split at he
  · rename_i x vc' hx
    simp at he
    obtain ⟨rfl, rfl, rfl⟩ := he
    have h6 := hvc _ List.mem_cons_self
    have h := frNumber_ok.row c args m (Ret.tv (A := A) (fqNum x.1)) none vc' hP (by simp only [rowOf]; rw [hx]) (fun p hp => hvc p (List.mem_cons_of_mem _ hp)) X W0 W β vs hgl hm hvs
    refine CallSem.mono h (fun v W' hv => ?_)
    obtain ⟨K, k1, k2, k3⟩ := hv
    refine ⟨K, k1, ?_, k3⟩
    have e : v = Rep.val (A := A) (fqNum x.1) := Rep.tv_only (A := A) (x := fqNum x.1) k2
    rw [e]
    show (TV.val true [SV.v (Value.int .u64 6), lit0, lit0, lit0, lit0, lit0]).Is (β.know K) (Value.agg (List.toArray (cells6 (numL (fqNum x.1)))))
    rw [h6]
    refine ⟨_, ?_, rfl⟩
    have l0 : ∀ {r : List (SV A)} {vs : List Value}, LIs (β.know K) r vs → LIs (β.know K) (lit0 :: r) (Value.int .u64 0 :: vs) := fun h => ⟨[_], _, ⟨rfl, rfl⟩, h, rfl⟩
    exact ⟨[Value.int .u64 6], _, ⟨rfl, rfl⟩, l0 (l0 (l0 (l0 (l0 rfl)))), rfl⟩
  · cases he
noncomputable def tblK4' : List (Row A) :=
  [rowOf A 42 (fun x : UInt64 × Unit => fqOf x.1), rowOf A 50 (fun x : Fq × Unit => invP (fun x y : Fq => x * y) x.1 (fqOf 1)), rowOf A 51 (fun x : Fq × Unit => -x.1), rowOf A 38 (fun x : Fq × Unit => bytesQ x.1.val), rowOf A 34 (fun x : Bs × Unit => fromQ x.1.l),
    rowOf A 46 (fun x : Fq × Fq × Unit => x.1 + x.2.1), rowOf A 49 (fun x : Fq × Fq × Unit => decide (x.1 = x.2.1)), rowOf A 37 (fun x : Fq × Unit => decide (x.1 = 0)),
    rowIn Try.prog [sixRow, rowIn Try.prog [] [] evalO 8 52 Try.f52] [] evalO 8 59 Try.f59]
theorem tblK4'_ok : TblOK Try.prog tblK4' :=
  .cons frOf_ok.row (.cons frInvP_ok.row (.cons frNeg_ok.row (.cons frBytes_ok.row (.cons frFrom_ok.row (.cons frAdd_ok.row (.cons frEqual_ok.row (.cons frIsZero_ok.row
    (.cons (rowIn_ok (.cons sixRow_ok (.cons (rowIn_ok (TblOK.nil _) (ITblOK.nil _) _ 8 Try.func52 (by kernel_rfl) (by kernel_rfl)) (.nil _))) (ITblOK.nil _) _ 8 Try.func59 (by kernel_rfl) (by kernel_rfl)) (.nil _)))))))))
theorem known4_ok : Computes A Try.prog 32 (fun _ : Unit => true) := by
  refine computes_of_runW tblK4'_ok itsK4_ok Try.func32 (by kernel_rfl) (by kernel_rfl) 8 ?_
  rintro ⟨⟩ ⟨⟩ W -
  exact ⟨evalO, noLoop, true, [numL (fqNum (fqOf 6)) = (UInt64.ofNat 6, UInt64.ofNat 0, UInt64.ofNat 0, UInt64.ofNat 0, UInt64.ofNat 0, UInt64.ofNat 0)], by kernel_rfl, ⟨by kernel_rfl, trivial⟩, rfl, fun body _ => loopsFor_none⟩
end Go.Proofs.Ytaloefkkllebeaa
