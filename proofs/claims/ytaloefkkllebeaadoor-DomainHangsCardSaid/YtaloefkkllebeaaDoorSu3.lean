/- Domains: the examples hold; the laws. -/
import Derived.Test.YtaloefkkllebeaaDoorSu2
import Derived.Test.YtaloefkkllebeaaDoorTc
set_option linter.unusedVariables false
set_option linter.unusedSimpArgs false
set_option linter.unusedSectionVars false
set_option maxRecDepth 100000
namespace Go.Proofs.YtaloefkkllebeaaDoor
open Go Go.Sh
noncomputable def tblF18 (Fk Fr : R8 4 → R8 32 → R8 32) (Do Dr : Cf → R8 32) (Sg Sr : R8 32 → R8 32 → R8 32) (Ms Mr : Cf → Hd → List UInt8) (Eq : List UInt8 → List UInt8 → Bool) : List (Row A) :=
  [rowOf A 64 (fun _ : GA Unit => true), rowOf A 39 (fun _ : Unit => (⟨.mk⟩ : Hz Mk)), rowOf A 65 (fun x : GA (R8 4 × R8 32 × Unit) => Fk x.x.1 x.x.2.1), rowOf A 66 (fun x : Hs Mk × R8 4 × R8 32 × Unit => Fr x.2.1 x.2.2.1),
    rowOf A 67 (fun x : GA (Cf × Unit) => Do x.x.1), rowOf A 68 (fun x : Hs Mk × Cf × Unit => Dr x.2.1), rowOf A 69 (fun x : GA (R8 32 × R8 32 × Unit) => Sg x.x.1 x.x.2.1), rowOf A 70 (fun x : Hs Mk × R8 32 × R8 32 × Unit => Sr x.2.1 x.2.2.1),
    rowOf A 71 (fun x : GA (Cf × Hd × Unit) => (⟨Ms x.x.1 x.x.2.1⟩ : Bz)), rowOf A 72 (fun x : Hs Mk × Cf × Hd × Unit => (⟨Mr x.2.1 x.2.2.1⟩ : Bz)), rowOf A 29 (fun x : Bs × Bs × Unit => Eq x.1.l x.2.1.l)]
noncomputable def tblF19 (Ms Mr : Cf → Hd → List UInt8) (Eq : List UInt8 → List UInt8 → Bool) : List (Row A) :=
  [rowOf A 64 (fun _ : GA Unit => true), rowOf A 39 (fun _ : Unit => (⟨.mk⟩ : Hz Mk)), rowOf A 31 (fun x : Int × Ps × Unit => placeV x.1 x.2.1.z),
    rowOf A 71 (fun x : GA (Cf × Hd × Unit) => (⟨Ms x.x.1 x.x.2.1⟩ : Bz)), rowOf A 72 (fun x : Hs Mk × Cf × Hd × Unit => (⟨Mr x.2.1 x.2.2.1⟩ : Bz)), rowOf A 29 (fun x : Bs × Bs × Unit => Eq x.1.l x.2.1.l)]
theorem known22_of {Do : Cf → R8 32} {Ms : Cf → Hd → List UInt8} {Eq : List UInt8 → List UInt8 → Bool} (ht : TblOK Tryd.prog (tblK22 Do Ms Eq))
    (d0 : (((Do cf0).f 0).toNat : Int) = 7) (d1 : (((Do cf0).f 1).toNat : Int) = 0) (d3 : (((Do cf0).f 3).toNat : Int) = 0) (d4 : (((Do cf0).f 4).toNat : Int) = 245) (hl : (((Ms cf0 hd3).length : Nat) : Int) = 32)
    (he : Eq (cB (Ms cf0 hd3)) (cB (Ms cf0 hd4)) = false) :
    Computes A Tryd.prog 64 (fun _ : GA Unit => true) := by
  refine computes_of_run ht Tryd.func64 (by kernel_rfl) (by kernel_rfl) 8 ?_
  rintro _ ⟨⟨⟩⟩ W ⟨hr, _⟩
  exact ⟨saysY [(36, false)], true, [Eq (cB (Ms cf0 hd3)) (cB (Ms cf0 hd4)) = false, (∀ j, j < (Ms cf0 hd3).length → isU8 (byteAt (B := FB) (Ms cf0 hd3) (0 + j)) = true), (∀ j, j < (Ms cf0 hd4).length → isU8 (byteAt (B := FB) (Ms cf0 hd4) (0 + j)) = true), RoundsIn W.cell?,
      ((((Ms cf0 hd3).length : Nat) : Int) == 32) = true, ((((Do cf0).f 4).toNat : Int) == 245) = true, ((((Do cf0).f 3).toNat : Int) == 0) = true, ((((Do cf0).f 1).toNat : Int) == 0) = true, ((((Do cf0).f 0).toNat : Int) == 7) = true, RoundsIn W.cell?, RoundsIn W.cell?], by kernel_rfl,
    ⟨he, fun _ _ => rfl, fun _ _ => rfl, hr, beq_iff_eq.2 hl, beq_iff_eq.2 d4, beq_iff_eq.2 d3, beq_iff_eq.2 d1, beq_iff_eq.2 d0, hr, hr, trivial⟩, rfl⟩
theorem head_hd3 (Pr : R8 32 → R8 32 → R8 32) : headR Pr hd3 = Pr (Pr (Pr ex_th3 zR) (Pr zR zR)) (Pr (Pr zR zR) (Pr zR zR)) := by kernel_rfl
theorem head_hd4 (Pr : R8 32 → R8 32 → R8 32) : headR Pr hd4 = Pr (Pr (Pr ex_th4 zR) (Pr zR zR)) (Pr (Pr zR zR) (Pr zR zR)) := by kernel_rfl
theorem dom_cf0 (Pr : R8 32 → R8 32 → R8 32) : domV Pr cf0 = ⟨jdV (Pr ⟨jnV cf0.2.1.f⟩ zR).f⟩ := rfl
theorem jn_cf0 : elR (jnV cf0.2.1.f) 0 = elR zR.f 0 := by kernel_rfl
theorem jd_b1 : elR (jdV b1.f) 0 = elR ex_dz.f 0 := by kernel_rfl
theorem dom_same0 : elR (domV pairR8 cf0).f 0 = elR ex_dz.f 0 := by
  rw [dom_cf0, pair_same (a := ⟨jnV cf0.2.1.f⟩) (a' := zR) (b := zR) (b' := zR) jn_cf0 rfl, is_b1]
  exact jd_b1
theorem msg_hd3 : msgV pairR8 cf0 hd3 = b32 ex_e4 := by
  unfold msgV
  rw [pair_same (a := headR pairR8 hd3) (a' := ex_e3) (b' := ex_dz) (by rw [head_hd3, is_b1, is_ex_e1, is_ex_e2, is_b2, is_ex_e3]) dom_same0, is_ex_e4]
theorem msg_hd4 : msgV pairR8 cf0 hd4 = b32 ex_f4 := by
  unfold msgV
  rw [pair_same (a := headR pairR8 hd4) (a' := ex_f3) (b' := ex_dz) (by rw [head_hd4, is_b1, is_ex_f1, is_ex_f2, is_b2, is_ex_f3]) dom_same0, is_ex_f4]
theorem dom_at (j : Nat) (h : j < 32) : (domV pairR8 cf0).f j = ex_dz.f j := by
  have e := congrArg (fun f : Nat → UInt8 => f j) dom_same0
  simp only [elR] at e
  rw [extR_at _ _ _ _ h, extR_at _ _ _ _ h, Nat.zero_add] at e
  exact e
theorem known22_ok : Computes A Tryd.prog 64 (fun _ : GA Unit => true) := by
  refine known22_of (Do := domV pairR8) (Ms := msgV pairR8) (Eq := fun a b => a == b) (.cons domain_ok.row (.cons message_ok.row (.cons sameBytes_ok.row (.nil _)))) ?_ ?_ ?_ ?_ ?_ ?_
  · rw [dom_at 0 (by decide)]; rfl
  · rw [dom_at 1 (by decide)]; rfl
  · rw [dom_at 3 (by decide)]; rfl
  · rw [dom_at 4 (by decide)]; rfl
  · rfl
  · rw [cB_eq, cB_eq, msg_hd3, msg_hd4]
    kernel_rfl
section
variable {Fk Fr : R8 4 → R8 32 → R8 32} {Do Dr : Cf → R8 32} {Sg Sr : R8 32 → R8 32 → R8 32} {Ms Mr : Cf → Hd → List UInt8} {Eq : List UInt8 → List UInt8 → Bool}
theorem domainTells_of (ht : TblOK Tryd.prog (tblF18 Fk Fr Do Dr Sg Sr Ms Mr Eq)) (hF : ∀ v g, eqB (Fk v g).f (Fr v g).f 0 32 = true) (hD : ∀ c, eqB (Do c).f (Dr c).f 0 32 = true) (hS : ∀ v g, eqB (Sg v g).f (Sr v g).f 0 32 = true) (hM : ∀ c d, Eq (cB (Ms c d)) (cB (Mr c d)) = true) :
    Computes A Tryd.prog 18 (fun _ : GA (Cf × Hd × R8 4 × R8 32 × R8 32 × Unit) => true) := by
  refine computes_of_run ht Tryd.func18 (by kernel_rfl) (by kernel_rfl) 8 ?_
  rintro _ ⟨⟨⟨⟨g⟩, ⟨v⟩, c1, c2, c3⟩, ⟨s, p, ⟨x⟩, ⟨y⟩, ⟨z⟩⟩, ⟨ve⟩, ⟨ro⟩, ⟨dd⟩, ⟨⟩⟩⟩ W ⟨hr, _⟩
  exact ⟨saysY [], true, [Eq (cB (Ms (⟨g⟩, ⟨v⟩, c1, c2, c3) (s, p, ⟨x⟩, ⟨y⟩, ⟨z⟩))) (cB (Mr (⟨g⟩, ⟨v⟩, c1, c2, c3) (s, p, ⟨x⟩, ⟨y⟩, ⟨z⟩))) = true,
      (∀ j, j < (Ms (⟨g⟩, ⟨v⟩, c1, c2, c3) (s, p, ⟨x⟩, ⟨y⟩, ⟨z⟩)).length → isU8 (byteAt (B := FB) (Ms (⟨g⟩, ⟨v⟩, c1, c2, c3) (s, p, ⟨x⟩, ⟨y⟩, ⟨z⟩)) (0 + j)) = true),
      (∀ j, j < (Mr (⟨g⟩, ⟨v⟩, c1, c2, c3) (s, p, ⟨x⟩, ⟨y⟩, ⟨z⟩)).length → isU8 (byteAt (B := FB) (Mr (⟨g⟩, ⟨v⟩, c1, c2, c3) (s, p, ⟨x⟩, ⟨y⟩, ⟨z⟩)) (0 + j)) = true),
      TabsAre, RoundsIn W.cell?, eqB (Sg ⟨ro⟩ ⟨dd⟩).f (Sr ⟨ro⟩ ⟨dd⟩).f 0 32 = true, TabsAre, RoundsIn W.cell?, eqB (Do (⟨g⟩, ⟨v⟩, c1, c2, c3)).f (Dr (⟨g⟩, ⟨v⟩, c1, c2, c3)).f 0 32 = true, TabsAre, RoundsIn W.cell?, eqB (Fk ⟨ve⟩ ⟨g⟩).f (Fr ⟨ve⟩ ⟨g⟩).f 0 32 = true, TabsAre, RoundsIn W.cell?, true = true, RoundsIn W.cell?], by kernel_rfl,
    ⟨hM _ _, fun _ _ => rfl, fun _ _ => rfl, tabsAre, hr, hS _ _, tabsAre, hr, hD _, tabsAre, hr, hF _ _, tabsAre, hr, rfl, hr, trivial⟩, rfl⟩
end
theorem domainTells_ok : Computes A Tryd.prog 18 (fun _ : GA (Cf × Hd × R8 4 × R8 32 × R8 32 × Unit) => true) :=
  domainTells_of (Fk := fun v g => pairR8 ⟨jnV v.f⟩ g) (Fr := fun v g => pairR8 ⟨jnV v.f⟩ g) (Do := domV pairR8) (Dr := rdomV pairR8) (Sg := pairR8) (Sr := pairR8) (Ms := msgV pairR8) (Mr := msgV pairR8) (Eq := fun a b => a == b)
    (.cons known22_ok.row (.cons hasher_ok.row (.cons fork_ok.row (.cons refFork_ok.row (.cons domain_ok.row (.cons refDomain_ok.row (.cons signing_ok.row (.cons refSigning_ok.row (.cons message_ok.row (.cons refMessage_ok.row (.cons sameBytes_ok.row (.nil _))))))))))))
    (fun _ _ => eqB_self _ _ _) dom_eq (fun _ _ => eqB_self _ _ _) (fun _ _ => beq_self_eq_true _)
end Go.Proofs.YtaloefkkllebeaaDoor
