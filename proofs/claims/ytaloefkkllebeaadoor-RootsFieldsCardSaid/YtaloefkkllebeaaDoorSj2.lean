/- Trees, by the reference: the argument types. -/
import Derived.Test.YtaloefkkllebeaaDoorSj1
set_option linter.unusedVariables false
set_option linter.unusedSimpArgs false
set_option linter.unusedSectionVars false
namespace Go.Sh
/-- A depth, b at most. -/
structure Dp (b : Nat) where
  n : Nat
instance (b : Nat) : Arg A (Dp b) where
  G := Unit
  good W g x := x.n ≤ b
  tv g x := .val false [.n .i64 (x.n : Int)]
  val g x := .int .i64 (x.n : Int)
  is := by
    intro W g x β h
    exact LIs.of_single rfl
  parse old m t := match Arg.parse (A := A) (T := Int) old m t with | some (z, vc) => some (⟨z.toNat⟩, (0 ≤ z ∧ z ≤ (b : Int)) :: vc) | none => none
  ok := by
    intro c X W0 W β m t x vc v h hvc hm e
    split at h
    · rename_i z vc' hz
      simp at h
      obtain ⟨rfl, rfl⟩ := h
      obtain ⟨g, h1, h2⟩ := Arg.ok (A := A) (T := Int) (c := c) (m := m) (t := t) hz (fun p hp => hvc p (by simp [hp])) hm e
      have h3 : 0 ≤ z ∧ z ≤ (b : Int) := hvc _ (by simp)
      refine ⟨(), by show z.toNat ≤ b; omega, ?_⟩
      rw [h2]
      show Value.int .i64 z = .int .i64 ((z.toNat : Nat) : Int)
      rw [Int.toNat_of_nonneg h3.1]
    · cases h
/-- Rows, each cut to its bytes. -/
def nm (l : List (R8 32)) : List (R8 32) := (List.range l.length).map fun k => ⟨elL l k⟩
theorem nm_len (l : List (R8 32)) : (nm l).length = l.length := by simp [nm]
theorem extR_congr (F G : Nat → UInt8) : ∀ (n i k : Nat), (∀ j, j < n → F (i + j) = G (k + j)) → extR F i n = extR G k n
  | 0, _, _, _ => rfl
  | n + 1, i, k, h => by
    have h0 := h 0 (by omega)
    rw [Nat.add_zero, Nat.add_zero] at h0
    show F i :: extR F (i + 1) n = G k :: extR G (k + 1) n
    rw [h0, extR_congr F G n (i + 1) (k + 1) (fun j hj => by rw [Nat.add_assoc, Nat.add_assoc, Nat.add_comm 1 j]; exact h (j + 1) (by omega))]
theorem elR_congr {F G : Nat → UInt8} {i k : Nat} (h : ∀ j, j < 32 → F (i + j) = G (k + j)) : elR F i = elR G k := by
  unfold elR
  rw [extR_congr F G 32 i k h]
/-- A cut of rows. -/
theorem nm_cut (F : Nat → UInt8) (l : List (R8 32)) (s n : Nat) (hs : s + n ≤ l.length) (h : ∀ j, j < n * 32 → F j = rsB l (s * 32 + j)) : nm (cutR 32 F n) = ((nm l).drop s).take n := by
  apply List.ext_getElem?
  intro k
  unfold nm
  rw [cutR_len, List.getElem?_map, List.getElem?_take, List.getElem?_drop, List.getElem?_map]
  by_cases hk : k < n
  · rw [if_pos hk, List.getElem?_range hk, List.getElem?_range (by omega)]
    show some (R8.mk (elL (cutR 32 F n) k)) = some (R8.mk (elL l (s + k)))
    unfold elL
    rw [elR_congr (F := rsB (cutR 32 F n)) (G := rsB l) (k := (s + k) * 32) (fun j hj => by
      have h1 : k * 32 + j < n * 32 := by omega
      rw [cutR_at _ _ _ _ h1, h _ h1]
      congr 1
      omega)]
  · rw [if_neg hk, List.getElem?_eq_none (by simp; omega)]
    rfl
theorem nm_at (l : List (R8 32)) (k : Nat) (h : k < l.length) (o : R8 32) : (nm l).getD k o = ⟨elL l k⟩ := by
  unfold nm
  rw [List.getD_eq_getElem?_getD, List.getElem?_map, List.getElem?_range h]
  rfl
end Go.Sh
namespace Go.Proofs.YtaloefkkllebeaaDoor
open Go Go.Sh
/-- A tree's root, of rows. -/
def treeN (Pr : R8 32 → R8 32 → R8 32) (l : List (R8 32)) (d : Nat) : R8 32 := treeT Pr zR (nm l) d
noncomputable def tblTr (Pr : R8 32 → R8 32 → R8 32) (b : Nat) : List (Row A) :=
  [rowOf A 34 (fun x : Ptr Mk × R8 32 × R8 32 × Unit => Pr x.2.1 x.2.2.1), rowOf A 41 (fun x : Hs Mk × Int × Unit => zK Pr zR (zrN x.2.1)),
    rowOf A 45 (fun x : Hs Mk × Rt 32 × Dp b × Unit => treeN Pr x.2.1.l x.2.2.1.n)]
end Go.Proofs.YtaloefkkllebeaaDoor
