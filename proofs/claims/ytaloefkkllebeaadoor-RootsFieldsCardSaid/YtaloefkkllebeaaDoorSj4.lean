/- Trees, level by level: one level up. -/
import Derived.Test.YtaloefkkllebeaaDoorSj3
set_option linter.unusedVariables false
set_option linter.unusedSimpArgs false
set_option linter.unusedSectionVars false
namespace Go.Sh
def two : Nat → Nat
  | 0 => 0
  | j + 1 => two j + 2
theorem two_eq : ∀ j, two j = 2 * j
  | 0 => rfl
  | j + 1 => by show two j + 2 = _; rw [two_eq j]; omega
def c32 : Nat → Nat
  | 0 => 0
  | j + 1 => c32 j + 32
theorem c32_eq : ∀ j, c32 j = 32 * j
  | 0 => rfl
  | j + 1 => by show c32 j + 32 = _; rw [c32_eq j]; omega
section
variable (Pr : R8 32 → R8 32 → R8 32)
/-- The right one of two. -/
def riU (B : Nat → UInt8) (n : Nat) (z : Nat → UInt8) (j : Nat) : Nat → UInt8 :=
  match decide ((two j : Int) + 1 < (n : Int)) with
  | true => elR B ((two j + 1) * 32)
  | false => z
/-- So many of the next level. -/
def upF (B : Nat → UInt8) (n : Nat) (z : Nat → UInt8) : Nat → Nat → A
  | 0 => fun _ => Atom.dummy
  | j + 1 => catF (upF B n z j) (timesN j (31 + 1)) (cells32 (Pr ⟨elR B (two j * 32)⟩ ⟨riU B n z j⟩).f) 0
/-- The cells of a level's next one. -/
def upB (B : Nat → UInt8) (n : Nat) (z : Nat → UInt8) (N : Nat) (i : Nat) : UInt8 := u8of (upF Pr B n z N i)
theorem cells32_u8 (f : Nat → UInt8) (q : Nat) : cells32 f q = .u8 (u8of (cells32 f q)) := by
  unfold cells32
  rw [List.getElem?_map]
  by_cases h : q < 32
  · rw [List.getElem?_range h]; rfl
  · rw [List.getElem?_eq_none (by simp; omega)]; rfl
theorem upF_u8 (B : Nat → UInt8) (n : Nat) (z : Nat → UInt8) : ∀ (N i : Nat), upF Pr B n z N i = .u8 (upB Pr B n z N i)
  | 0, i => rfl
  | N + 1, i => by
    unfold upB
    simp only [upF, catF]
    split
    · exact upF_u8 B n z N i
    · exact cells32_u8 _ _
theorem upF_fun (B : Nat → UInt8) (n : Nat) (z : Nat → UInt8) (N : Nat) : upF Pr B n z N = fun i => .u8 (upB Pr B n z N i) := funext (upF_u8 Pr B n z N)
theorem cells32_at (f : Nat → UInt8) (q : Nat) (h : q < 32) : u8of (cells32 f q) = f q := by
  unfold cells32
  rw [List.getElem?_map, List.getElem?_range h]
  rfl
theorem upB_at (B : Nat → UInt8) (n : Nat) (z : Nat → UInt8) : ∀ (N k j : Nat), k < N → j < 32 → upB Pr B n z N (k * 32 + j) = (Pr ⟨elR B (two k * 32)⟩ ⟨riU B n z k⟩).f j
  | N + 1, k, j, hk, hj => by
    unfold upB
    simp only [upF, catF, timesN_eq]
    by_cases h : k * 32 + j < N * (31 + 1)
    · have hb : (k * 32 + j).blt (N * (31 + 1)) = true := by rw [Nat.blt_eq]; exact h
      rw [hb]
      exact upB_at B n z N k j (by omega) hj
    · have hb : (k * 32 + j).blt (N * (31 + 1)) = false := by rw [Bool.eq_false_iff, ne_eq, Nat.blt_eq]; exact h
      rw [hb]
      obtain rfl : k = N := by omega
      have e : 0 + (k * 32 + j - k * (31 + 1)) = j := by omega
      show u8of (cells32 _ (0 + (k * 32 + j - k * (31 + 1)))) = _
      rw [e, cells32_at _ _ hj]
/-- A level: its cells, how many there are. -/
structure Lv where
  B : Nat → UInt8
  n : Nat
def lvU (l : List (R8 32)) : Nat → Lv
  | 0 => ⟨fun q => rsB l (0 + q), l.length⟩
  | k + 1 => ⟨upB Pr (lvU l k).B (lvU l k).n (zK Pr ⟨pickN 0 (List.replicate 32 (UInt8.ofNat 0))⟩ k).f (((lvU l k).n + 1) / 2), ((lvU l k).n + 1) / 2⟩
/-- A level's rows. -/
def Lv.rows (x : Lv) : List (R8 32) := (List.range x.n).map fun k => ⟨elR x.B (k * 32)⟩
end
end Go.Sh
