/- Domains: the reference's; the examples. -/
import Derived.Test.YtaloefkkllebeaaDoorSu1
set_option linter.unusedVariables false
set_option linter.unusedSimpArgs false
set_option linter.unusedSectionVars false
set_option maxRecDepth 100000
namespace Go.Proofs.YtaloefkkllebeaaDoor
open Go Go.Sh
def cp4 (v : Nat → UInt8) : Nat → UInt8 := pickN 0 ((List.range 4).map v ++ List.replicate 28 (UInt8.ofNat 0))
theorem refFork_of {Tv : List (R8 32) → R8 32} (ht : TblOK Tryd.prog (tblTd Tv)) : Computes A Tryd.prog 66 (fun x : Hs Mk × R8 4 × R8 32 × Unit => Tv (twS (cp4 x.2.1.f) x.2.2.1.f)) := by
  refine computes_of_run ht Tryd.func66 (by kernel_rfl) (by kernel_rfl) 6 ?_
  rintro ⟨a, _⟩ ⟨⟨m⟩, ⟨v⟩, ⟨g⟩, ⟨⟩⟩ W ⟨ha, _⟩
  have rt : ReadT W.cell? a 0 72 := by
    intro b hb j hj
    obtain rfl := Option.some.inj hb
    exact ha (0 + j) (show 0 + j < 72 by omega)
  exact ⟨saysY [], Tv (twS (cp4 v) g), [ReadT W.cell? a 0 72, TabsAre, (twS (cp4 v) g).length < 1048576], by kernel_rfl, ⟨rt, tabsAre, by rw [twS_len]; decide, trivial⟩, rfl⟩
theorem refSigning_of {Tv : List (R8 32) → R8 32} (ht : TblOK Tryd.prog (tblTd Tv)) : Computes A Tryd.prog 70 (fun x : Hs Mk × R8 32 × R8 32 × Unit => Tv (twS x.2.1.f x.2.2.1.f)) := by
  refine computes_of_run ht Tryd.func70 (by kernel_rfl) (by kernel_rfl) 6 ?_
  rintro ⟨a, _⟩ ⟨⟨m⟩, ⟨v⟩, ⟨g⟩, ⟨⟩⟩ W ⟨ha, _⟩
  have rt : ReadT W.cell? a 0 72 := by
    intro b hb j hj
    obtain rfl := Option.some.inj hb
    exact ha (0 + j) (show 0 + j < 72 by omega)
  exact ⟨saysY [], Tv (twS v g), [ReadT W.cell? a 0 72, TabsAre, (twS v g).length < 1048576], by kernel_rfl, ⟨rt, tabsAre, by rw [twS_len]; decide, trivial⟩, rfl⟩
def rdV (r : Nat → UInt8) : Nat → UInt8 := pickN 0 ([7, 0, 0, 0] ++ (List.range 28).map r)
theorem refDomain_of {Fk : R8 4 → R8 32 → R8 32} (ht : TblOK Tryd.prog (tblRd Fk)) : Computes A Tryd.prog 68 (fun x : Hs Mk × Cf × Unit => (⟨rdV (Fk x.2.1.2.1 x.2.1.1).f⟩ : R8 32)) := by
  refine computes_of_run ht Tryd.func68 (by kernel_rfl) (by kernel_rfl) 6 ?_
  rintro ⟨a, _⟩ ⟨⟨m⟩, ⟨⟨g⟩, ⟨v⟩, c1, c2, c3⟩, ⟨⟩⟩ W ⟨ha, _⟩
  have rt : ReadT W.cell? a 0 72 := by
    intro b hb j hj
    obtain rfl := Option.some.inj hb
    exact ha (0 + j) (show 0 + j < 72 by omega)
  exact ⟨saysY [], ⟨rdV (Fk ⟨v⟩ ⟨g⟩).f⟩, [ReadT W.cell? a 0 72, TabsAre], by kernel_rfl, ⟨rt, tabsAre, trivial⟩, rfl⟩
def b32' (r : R8 32) : List UInt8 := (List.range (32 - 0)).map fun j => u8of (pk1 r.f (0 + j))
theorem b32_eq (r : R8 32) : b32' r = b32 r := by
  unfold b32' b32
  refine List.map_congr_left fun j hj => ?_
  rw [Nat.zero_add, pk1_eq, lit1_at _ _ (List.mem_range.1 hj)]
  rfl
theorem refMessage_of {Hr : Hd → R8 32} {Do : Cf → R8 32} {Sg : R8 32 → R8 32 → R8 32} (ht : TblOK Tryd.prog (tblRm Hr Do Sg)) : Computes A Tryd.prog 72 (fun x : Hs Mk × Cf × Hd × Unit => (⟨b32 (Sg (Hr x.2.2.1) (Do x.2.1))⟩ : Bz)) := by
  refine computes_of_run ht Tryd.func72 (by kernel_rfl) (by kernel_rfl) 6 ?_
  rintro ⟨a, _⟩ ⟨⟨m⟩, ⟨⟨g⟩, ⟨v⟩, c1, c2, c3⟩, ⟨s, p, ⟨x⟩, ⟨y⟩, ⟨z⟩⟩, ⟨⟩⟩ W ⟨ha, _⟩
  have rt : ReadT W.cell? a 0 72 := by
    intro b hb j hj
    obtain rfl := Option.some.inj hb
    exact ha (0 + j) (show 0 + j < 72 by omega)
  exact ⟨saysY [], ⟨b32' (Sg (Hr (s, p, ⟨x⟩, ⟨y⟩, ⟨z⟩)) (Do (⟨g⟩, ⟨v⟩, c1, c2, c3)))⟩, [∀ j, j < 32 - 0 → isU8 (pk1 (Sg (Hr (s, p, ⟨x⟩, ⟨y⟩, ⟨z⟩)) (Do (⟨g⟩, ⟨v⟩, c1, c2, c3))).f (0 + j)) = true, Sh.Bears (32 - 0) 1, ReadT W.cell? a 0 72, TabsAre, ReadT W.cell? a 0 72, TabsAre, ReadT W.cell? a 0 72, TabsAre], by kernel_rfl,
    ⟨fun j _ => pk1_u8 _ _, by unfold Sh.Bears maxLen; omega, rt, tabsAre, rt, tabsAre, rt, tabsAre, trivial⟩, by rw [b32_eq]⟩
/-! ### They are the same -/
theorem cut_jn (v : Nat → UInt8) : elR (cp4 v) 0 = elR (jnV v) 0 := by kernel_rfl
theorem cut_jd (r : Nat → UInt8) : elR (rdV r) 0 = elR (jdV r) 0 := by kernel_rfl
theorem pair_same {a a' b b' : R8 32} (h1 : elR a.f 0 = elR a'.f 0) (h2 : elR b.f 0 = elR b'.f 0) : pairR8 a b = pairR8 a' b' := by
  rw [← pair_ext a b, ← pair_ext a' b', h1, h2]
theorem treV_pair (a b : R8 32) : treV pairR8 (twS a.f b.f) = pairR8 a b := by rw [treV_two pairR8 (nm_twS _ _), pair_ext]
theorem refFork_ok : Computes A Tryd.prog 66 (fun x : Hs Mk × R8 4 × R8 32 × Unit => pairR8 ⟨jnV x.2.1.f⟩ x.2.2.1) := by
  have h := refFork_of (Tv := treV pairR8) (.cons refTree_ok.row (.nil _))
  have e : (fun x : Hs Mk × R8 4 × R8 32 × Unit => treV pairR8 (twS (cp4 x.2.1.f) x.2.2.1.f)) = fun x => pairR8 ⟨jnV x.2.1.f⟩ x.2.2.1 := by
    funext x
    rw [treV_pair ⟨cp4 x.2.1.f⟩ x.2.2.1]
    exact pair_same (cut_jn _) rfl
  rw [e] at h
  exact h
theorem refSigning_ok : Computes A Tryd.prog 70 (fun x : Hs Mk × R8 32 × R8 32 × Unit => pairR8 x.2.1 x.2.2.1) := by
  have h := refSigning_of (Tv := treV pairR8) (.cons refTree_ok.row (.nil _))
  have e : (fun x : Hs Mk × R8 32 × R8 32 × Unit => treV pairR8 (twS x.2.1.f x.2.2.1.f)) = fun x => pairR8 x.2.1 x.2.2.1 := by
    funext x
    exact treV_pair _ _
  rw [e] at h
  exact h
def rdomV (Pr : R8 32 → R8 32 → R8 32) (c : Cf) : R8 32 := ⟨rdV (Pr ⟨jnV c.2.1.f⟩ c.1).f⟩
theorem refDomain_ok : Computes A Tryd.prog 68 (fun x : Hs Mk × Cf × Unit => rdomV pairR8 x.2.1) := refDomain_of (Fk := fun v g => pairR8 ⟨jnV v.f⟩ g) (.cons refFork_ok.row (.nil _))
theorem refMessage_ok : Computes A Tryd.prog 72 (fun x : Hs Mk × Cf × Hd × Unit => (⟨msgV pairR8 x.2.1 x.2.2.1⟩ : Bz)) := by
  have h := refMessage_of (Hr := headR pairR8) (Do := rdomV pairR8) (Sg := pairR8) (.cons refHeader_ok.row (.cons refDomain_ok.row (.cons refSigning_ok.row (.nil _))))
  have e : (fun x : Hs Mk × Cf × Hd × Unit => (⟨b32 (pairR8 (headR pairR8 x.2.2.1) (rdomV pairR8 x.2.1))⟩ : Bz)) = fun x => ⟨msgV pairR8 x.2.1 x.2.2.1⟩ := by
    funext x
    unfold msgV
    have e2 : pairR8 (headR pairR8 x.2.2.1) (rdomV pairR8 x.2.1) = pairR8 (headR pairR8 x.2.2.1) (domV pairR8 x.2.1) := pair_same rfl (cut_jd _)
    rw [e2]
  rw [e] at h
  exact h
theorem dom_eq (c : Cf) : eqB (domV pairR8 c).f (rdomV pairR8 c).f 0 32 = true := by
  rw [eqB_eq]
  intro j hj
  have h := congrArg (fun f : Nat → UInt8 => f j) (cut_jd (pairR8 ⟨jnV c.2.1.f⟩ c.1).f)
  simp only [elR] at h
  rw [extR_at _ _ _ _ hj, extR_at _ _ _ _ hj] at h
  exact h.symm
/-! ### The examples -/
def ex_dz : R8 32 := ⟨pickN 0 [UInt8.ofNat 7, UInt8.ofNat 0, UInt8.ofNat 0, UInt8.ofNat 0, UInt8.ofNat 245, UInt8.ofNat 165, UInt8.ofNat 253, UInt8.ofNat 66, UInt8.ofNat 209, UInt8.ofNat 106, UInt8.ofNat 32, UInt8.ofNat 48, UInt8.ofNat 39, UInt8.ofNat 152, UInt8.ofNat 239, UInt8.ofNat 110, UInt8.ofNat 211, UInt8.ofNat 9, UInt8.ofNat 151, UInt8.ofNat 155, UInt8.ofNat 67, UInt8.ofNat 0, UInt8.ofNat 61, UInt8.ofNat 35, UInt8.ofNat 32, UInt8.ofNat 217, UInt8.ofNat 240, UInt8.ofNat 232, UInt8.ofNat 234, UInt8.ofNat 152, UInt8.ofNat 49, UInt8.ofNat 169]⟩
def ex_th3 : R8 32 := ⟨pickN 0 [UInt8.ofNat 3, UInt8.ofNat 0, UInt8.ofNat 0, UInt8.ofNat 0, UInt8.ofNat 0, UInt8.ofNat 0, UInt8.ofNat 0, UInt8.ofNat 0, UInt8.ofNat 0, UInt8.ofNat 0, UInt8.ofNat 0, UInt8.ofNat 0, UInt8.ofNat 0, UInt8.ofNat 0, UInt8.ofNat 0, UInt8.ofNat 0, UInt8.ofNat 0, UInt8.ofNat 0, UInt8.ofNat 0, UInt8.ofNat 0, UInt8.ofNat 0, UInt8.ofNat 0, UInt8.ofNat 0, UInt8.ofNat 0, UInt8.ofNat 0, UInt8.ofNat 0, UInt8.ofNat 0, UInt8.ofNat 0, UInt8.ofNat 0, UInt8.ofNat 0, UInt8.ofNat 0, UInt8.ofNat 0]⟩
def ex_th4 : R8 32 := ⟨pickN 0 [UInt8.ofNat 4, UInt8.ofNat 0, UInt8.ofNat 0, UInt8.ofNat 0, UInt8.ofNat 0, UInt8.ofNat 0, UInt8.ofNat 0, UInt8.ofNat 0, UInt8.ofNat 0, UInt8.ofNat 0, UInt8.ofNat 0, UInt8.ofNat 0, UInt8.ofNat 0, UInt8.ofNat 0, UInt8.ofNat 0, UInt8.ofNat 0, UInt8.ofNat 0, UInt8.ofNat 0, UInt8.ofNat 0, UInt8.ofNat 0, UInt8.ofNat 0, UInt8.ofNat 0, UInt8.ofNat 0, UInt8.ofNat 0, UInt8.ofNat 0, UInt8.ofNat 0, UInt8.ofNat 0, UInt8.ofNat 0, UInt8.ofNat 0, UInt8.ofNat 0, UInt8.ofNat 0, UInt8.ofNat 0]⟩
def ex_e1 : R8 32 := ⟨pickN 0 [UInt8.ofNat 231, UInt8.ofNat 180, UInt8.ofNat 187, UInt8.ofNat 103, UInt8.ofNat 85, UInt8.ofNat 29, UInt8.ofNat 222, UInt8.ofNat 149, UInt8.ofNat 137, UInt8.ofNat 193, UInt8.ofNat 85, UInt8.ofNat 61, UInt8.ofNat 253, UInt8.ofNat 163, UInt8.ofNat 122, UInt8.ofNat 148, UInt8.ofNat 42, UInt8.ofNat 24, UInt8.ofNat 202, UInt8.ofNat 241, UInt8.ofNat 132, UInt8.ofNat 249, UInt8.ofNat 204, UInt8.ofNat 22, UInt8.ofNat 41, UInt8.ofNat 210, UInt8.ofNat 92, UInt8.ofNat 245, UInt8.ofNat 198, UInt8.ofNat 11, UInt8.ofNat 228, UInt8.ofNat 22]⟩
def ex_e2 : R8 32 := ⟨pickN 0 [UInt8.ofNat 204, UInt8.ofNat 191, UInt8.ofNat 218, UInt8.ofNat 205, UInt8.ofNat 68, UInt8.ofNat 249, UInt8.ofNat 185, UInt8.ofNat 117, UInt8.ofNat 184, UInt8.ofNat 245, UInt8.ofNat 183, UInt8.ofNat 96, UInt8.ofNat 165, UInt8.ofNat 163, UInt8.ofNat 32, UInt8.ofNat 7, UInt8.ofNat 152, UInt8.ofNat 120, UInt8.ofNat 53, UInt8.ofNat 79, UInt8.ofNat 33, UInt8.ofNat 59, UInt8.ofNat 71, UInt8.ofNat 65, UInt8.ofNat 218, UInt8.ofNat 23, UInt8.ofNat 146, UInt8.ofNat 54, UInt8.ofNat 131, UInt8.ofNat 21, UInt8.ofNat 153, UInt8.ofNat 199]⟩
def ex_e3 : R8 32 := ⟨pickN 0 [UInt8.ofNat 123, UInt8.ofNat 22, UInt8.ofNat 59, UInt8.ofNat 213, UInt8.ofNat 126, UInt8.ofNat 28, UInt8.ofNat 76, UInt8.ofNat 139, UInt8.ofNat 80, UInt8.ofNat 72, UInt8.ofNat 197, UInt8.ofNat 56, UInt8.ofNat 150, UInt8.ofNat 152, UInt8.ofNat 9, UInt8.ofNat 143, UInt8.ofNat 76, UInt8.ofNat 149, UInt8.ofNat 125, UInt8.ofNat 98, UInt8.ofNat 215, UInt8.ofNat 206, UInt8.ofNat 134, UInt8.ofNat 244, UInt8.ofNat 255, UInt8.ofNat 169, UInt8.ofNat 189, UInt8.ofNat 199, UInt8.ofNat 92, UInt8.ofNat 22, UInt8.ofNat 161, UInt8.ofNat 139]⟩
def ex_e4 : R8 32 := ⟨pickN 0 [UInt8.ofNat 173, UInt8.ofNat 164, UInt8.ofNat 127, UInt8.ofNat 121, UInt8.ofNat 112, UInt8.ofNat 168, UInt8.ofNat 206, UInt8.ofNat 32, UInt8.ofNat 208, UInt8.ofNat 152, UInt8.ofNat 225, UInt8.ofNat 69, UInt8.ofNat 198, UInt8.ofNat 25, UInt8.ofNat 90, UInt8.ofNat 214, UInt8.ofNat 129, UInt8.ofNat 24, UInt8.ofNat 9, UInt8.ofNat 198, UInt8.ofNat 89, UInt8.ofNat 173, UInt8.ofNat 187, UInt8.ofNat 72, UInt8.ofNat 180, UInt8.ofNat 117, UInt8.ofNat 101, UInt8.ofNat 79, UInt8.ofNat 233, UInt8.ofNat 71, UInt8.ofNat 188, UInt8.ofNat 185]⟩
def ex_f1 : R8 32 := ⟨pickN 0 [UInt8.ofNat 214, UInt8.ofNat 228, UInt8.ofNat 151, UInt8.ofNat 184, UInt8.ofNat 22, UInt8.ofNat 194, UInt8.ofNat 122, UInt8.ofNat 49, UInt8.ofNat 172, UInt8.ofNat 213, UInt8.ofNat 217, UInt8.ofNat 243, UInt8.ofNat 237, UInt8.ofNat 103, UInt8.ofNat 6, UInt8.ofNat 57, UInt8.ofNat 254, UInt8.ofNat 247, UInt8.ofNat 132, UInt8.ofNat 47, UInt8.ofNat 238, UInt8.ofNat 81, UInt8.ofNat 240, UInt8.ofNat 68, UInt8.ofNat 223, UInt8.ofNat 191, UInt8.ofNat 182, UInt8.ofNat 49, UInt8.ofNat 156, UInt8.ofNat 118, UInt8.ofNat 10, UInt8.ofNat 95]⟩
def ex_f2 : R8 32 := ⟨pickN 0 [UInt8.ofNat 62, UInt8.ofNat 140, UInt8.ofNat 242, UInt8.ofNat 85, UInt8.ofNat 33, UInt8.ofNat 205, UInt8.ofNat 78, UInt8.ofNat 3, UInt8.ofNat 5, UInt8.ofNat 118, UInt8.ofNat 59, UInt8.ofNat 210, UInt8.ofNat 197, UInt8.ofNat 180, UInt8.ofNat 122, UInt8.ofNat 38, UInt8.ofNat 35, UInt8.ofNat 217, UInt8.ofNat 233, UInt8.ofNat 113, UInt8.ofNat 222, UInt8.ofNat 224, UInt8.ofNat 241, UInt8.ofNat 145, UInt8.ofNat 221, UInt8.ofNat 20, UInt8.ofNat 250, UInt8.ofNat 113, UInt8.ofNat 220, UInt8.ofNat 1, UInt8.ofNat 89, UInt8.ofNat 3]⟩
def ex_f3 : R8 32 := ⟨pickN 0 [UInt8.ofNat 61, UInt8.ofNat 137, UInt8.ofNat 228, UInt8.ofNat 70, UInt8.ofNat 120, UInt8.ofNat 23, UInt8.ofNat 82, UInt8.ofNat 189, UInt8.ofNat 185, UInt8.ofNat 97, UInt8.ofNat 157, UInt8.ofNat 123, UInt8.ofNat 140, UInt8.ofNat 254, UInt8.ofNat 62, UInt8.ofNat 237, UInt8.ofNat 111, UInt8.ofNat 105, UInt8.ofNat 79, UInt8.ofNat 104, UInt8.ofNat 63, UInt8.ofNat 84, UInt8.ofNat 48, UInt8.ofNat 225, UInt8.ofNat 43, UInt8.ofNat 234, UInt8.ofNat 6, UInt8.ofNat 38, UInt8.ofNat 242, UInt8.ofNat 42, UInt8.ofNat 244, UInt8.ofNat 89]⟩
def ex_f4 : R8 32 := ⟨pickN 0 [UInt8.ofNat 231, UInt8.ofNat 91, UInt8.ofNat 137, UInt8.ofNat 103, UInt8.ofNat 28, UInt8.ofNat 58, UInt8.ofNat 104, UInt8.ofNat 215, UInt8.ofNat 133, UInt8.ofNat 21, UInt8.ofNat 167, UInt8.ofNat 69, UInt8.ofNat 124, UInt8.ofNat 47, UInt8.ofNat 194, UInt8.ofNat 84, UInt8.ofNat 34, UInt8.ofNat 82, UInt8.ofNat 26, UInt8.ofNat 41, UInt8.ofNat 9, UInt8.ofNat 152, UInt8.ofNat 146, UInt8.ofNat 144, UInt8.ofNat 218, UInt8.ofNat 51, UInt8.ofNat 57, UInt8.ofNat 46, UInt8.ofNat 35, UInt8.ofNat 218, UInt8.ofNat 5, UInt8.ofNat 37]⟩
theorem is_ex_e1 : pairR8 ex_th3 zR = ex_e1 := by kernel_rfl
theorem is_ex_e2 : pairR8 ex_e1 b1 = ex_e2 := by kernel_rfl
theorem is_ex_e3 : pairR8 ex_e2 b2 = ex_e3 := by kernel_rfl
theorem is_ex_e4 : pairR8 ex_e3 ex_dz = ex_e4 := by kernel_rfl
theorem is_ex_f1 : pairR8 ex_th4 zR = ex_f1 := by kernel_rfl
theorem is_ex_f2 : pairR8 ex_f1 b1 = ex_f2 := by kernel_rfl
theorem is_ex_f3 : pairR8 ex_f2 b2 = ex_f3 := by kernel_rfl
theorem is_ex_f4 : pairR8 ex_f3 ex_dz = ex_f4 := by kernel_rfl
def cf0 : Cf := (zR, ⟨pickN 0 (List.replicate 4 (UInt8.ofNat 0))⟩, UInt64.ofNat 0, UInt64.ofNat 0, 0)
def hd3 : Hd := (UInt64.ofNat 3, UInt64.ofNat 0, zR, zR, zR)
def hd4 : Hd := (UInt64.ofNat 4, UInt64.ofNat 0, zR, zR, zR)
noncomputable def tblK22 (Do : Cf → R8 32) (Ms : Cf → Hd → List UInt8) (Eq : List UInt8 → List UInt8 → Bool) : List (Row A) :=
  [rowOf A 67 (fun x : GA (Cf × Unit) => Do x.x.1), rowOf A 71 (fun x : GA (Cf × Hd × Unit) => (⟨Ms x.x.1 x.x.2.1⟩ : Bz)), rowOf A 29 (fun x : Bs × Bs × Unit => Eq x.1.l x.2.1.l)]
end Go.Proofs.YtaloefkkllebeaaDoor
