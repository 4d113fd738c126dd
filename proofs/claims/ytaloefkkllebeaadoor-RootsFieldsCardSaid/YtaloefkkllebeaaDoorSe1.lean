/- SHA-256: copies, bytes held against one another, the maker; the law of sums. -/
import Derived.Test.YtaloefkkllebeaaDoorSc3
set_option linter.unusedVariables false
set_option linter.unusedSimpArgs false
set_option linter.unusedSectionVars false
namespace Go.Proofs.YtaloefkkllebeaaDoor
open Go Go.Sh
theorem table_ok : RowOK Tryd.prog (rowIn (A := A) Tryd.prog [] [] (fun _ _ => .keep) 4 88 Tryd.f88) := rowIn_ok (TblOK.nil _) (ITblOK.nil _) _ 4 Tryd.func88 (by kernel_rfl) (by kernel_rfl)
theorem new_ok : Computes A Tryd.prog 27 (fun _ : Unit => (⟨.mk⟩ : Pz Mk)) := by
  refine computes_of_run (.cons table_ok (.nil _)) Tryd.func27 (by kernel_rfl) (by kernel_rfl) 4 ?_
  rintro ⟨⟩ ⟨⟩ W -
  exact ⟨fun _ _ => .keep, ⟨.mk⟩, [], by kernel_rfl, trivial, rfl⟩
theorem copy_ok : Computes A Tryd.prog 25 (fun x : Bt × Unit => (⟨x.1.l⟩ : Bz)) := by
  refine computes_of_run (TblOK.nil _) Tryd.func25 (by kernel_rfl) (by kernel_rfl) 4 ?_
  rintro ⟨g, _⟩ ⟨⟨l⟩, ⟨⟩⟩ W ⟨⟨hg, hn⟩, _⟩
  have hg : HasBytes W l g := hg
  have hn : l.length < 1048576 := hn
  exact ⟨fun _ _ => .keep, ⟨outR8 l []⟩, [∀ j, j < l.length → isU8 (GR l [] (0 + j)) = true, Sh.Bears l.length 1, ReadB W g l], by kernel_rfl, ⟨GR_isU8 l [], bears (by omega), readB hg, trivial⟩, by rw [outR8_eq]; simp⟩
abbrev AllB (l : List UInt8) : Prop := ∀ q, q < l.length → Atom.isByte (byteAt (B := FB) l (0 + q)) = true
theorem sameBytes_ok : Computes A Tryd.prog 29 (fun x : Bs × Bs × Unit => x.1.l == x.2.1.l) := by
  refine computes_of_run (TblOK.nil _) Tryd.func29 (by kernel_rfl) (by kernel_rfl) 4 ?_
  rintro ⟨g1, g2, _⟩ ⟨⟨x⟩, ⟨y⟩, ⟨⟩⟩ W ⟨k1, k2, _⟩
  have k1 : HasBytes W x g1 := k1
  have k2 : HasBytes W y g2 := k2
  refine ⟨fun _ _ => .keep, (partB x 0 x.length == partB y 0 y.length), [AllB y, ReadB W g2 y, AllB x, ReadB W g1 x], by kernel_rfl, ⟨fun _ _ => rfl, readB k2, fun _ _ => rfl, readB k1, trivial⟩, ?_⟩
  rw [partB_all, partB_all]
noncomputable def tblSs (S : List UInt8 → R8 32) (Cp : List UInt8 → List UInt8) (Eq : List UInt8 → List UInt8 → Bool) : List (Row A) :=
  [rowOf A 24 (fun _ : GA Unit => true), rowOf A 26 (fun x : GA (Bs × Unit) => S x.x.1.l), rowOf A 28 (fun x : Ptr Mk × Bt × Unit => S x.2.1.l), rowOf A 27 (fun _ : Unit => (⟨.mk⟩ : Pz Mk)),
    rowOf A 25 (fun x : Bt × Unit => (⟨Cp x.1.l⟩ : Bz)), rowOf A 29 (fun x : Bs × Bs × Unit => Eq x.1.l x.2.1.l)]
def TabsAre : Prop := ∀ j, j < 72 → ((fun j => (.u32 (tabA j) : A)) (0 + j)) = .u32 (tabA j)
theorem tabsAre : TabsAre := fun j _ => by show (At.u32 (tabA (0 + j)) : A) = _; rw [Nat.zero_add]
theorem shaSums_of (S : List UInt8 → R8 32) (Cp : List UInt8 → List UInt8) (Eq : List UInt8 → List UInt8 → Bool) (ht : TblOK Tryd.prog (tblSs S Cp Eq)) (hC : ∀ l, Cp l = l) (hE : ∀ l, Eq l l = true) :
    Computes A Tryd.prog 3 (fun _ : GA (Bs × Unit) => true) := by
  refine computes_of_run ht Tryd.func3 (by kernel_rfl) (by kernel_rfl) 8 ?_
  rintro ⟨g, _⟩ ⟨⟨⟨l⟩, ⟨⟩⟩⟩ W ⟨hr, hg, _⟩
  have hg : HasBytes W l g := hg
  by_cases hl : l.length ≤ 5000
  · obtain ⟨p, hp⟩ : ∃ p, p = partB l 0 l.length := ⟨_, rfl⟩
    have hpl : p = l := by rw [hp, partB_all]
    obtain ⟨q, hq⟩ : ∃ q, q = partB (Cp p) 0 (Cp p).length := ⟨_, rfl⟩
    have hql : q = p := by rw [hq, partB_all, hC]
    have hn : p.length < 1048576 := by rw [hpl]; omega
    have e1 : eqB (S q).f (S p).f 0 32 = true := by rw [hql]; exact eqB_self _ _ _
    have e2 : Eq q p = true := by rw [hql]; exact hE _
    refine ⟨saysY [(9, false)], true, [Eq q p = true, AllU8 (Cp p), ReadB W g l, AllU8 l, eqB (S q).f (S p).f 0 32 = true, TabsAre, p.length < 1048576, ReadB W g l, AllU8 l, RoundsIn W.cell?, AllU8 (Cp p), p.length < 1048576, ReadB W g l, AllU8 l, decide ((l.length : Int) > 5000) = false, true = true, RoundsIn W.cell?], ?_,
      ⟨e2, allU8 _, readB hg, allU8 l, e1, tabsAre, hn, readB hg, allU8 l, hr, allU8 _, hn, readB hg, allU8 l, decide_eq_false (by omega), rfl, hr, trivial⟩, rfl⟩
    subst hq
    subst hp
    kernel_rfl
  · exact ⟨saysY [], true, [decide ((l.length : Int) > 5000) = true, true = true, RoundsIn W.cell?], by kernel_rfl, ⟨decide_eq_true (by omega), rfl, hr, trivial⟩, rfl⟩
theorem shaSums_ok : Computes A Tryd.prog 3 (fun _ : GA (Bs × Unit) => true) :=
  shaSums_of sumL (fun l => l) (fun a b => a == b) (.cons known_ok.row (.cons sum_ok.row (.cons refSum_ok.row (.cons new_ok.row (.cons copy_ok.row (.cons sameBytes_ok.row (.nil _))))))) (fun _ => rfl) (fun _ => beq_self_eq_true _)
end Go.Proofs.YtaloefkkllebeaaDoor
