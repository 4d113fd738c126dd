/- Rows of words of 32 bits; pointers to data; arguments beside the rounds' words. -/
import Derived.Test.YtaloefkkllebeaaDoorFm1
import Derived.Test.YtaloefkkllebeaaDoorProg
set_option linter.unusedVariables false
set_option linter.unusedSimpArgs false
set_option linter.unusedSectionVars false
set_option maxRecDepth 100000
namespace Go.Sh
/-- A row of n words of 32 bits. -/
structure R32 (n : Nat) where
  f : Nat → UInt32
def words32 : List (SV A) → Option (List UInt32)
  | [] => some []
  | .a (.u32 x) :: l => match words32 l with | some r => some (x :: r) | none => none
  | .v (.int .u32 (.ofNat n)) :: l => if n < 4294967296 then (match words32 l with | some r => some (UInt32.ofNat n :: r) | none => none) else none
  | _ => none
theorem words32_is {β : Adr} : ∀ {l : List (SV A)} {vs : List Value} {r : List UInt32}, LIs β l vs → words32 l = some r → vs = r.map fun x => Value.int .u32 x.toNat
  | [], vs, r, h, e => by simp [words32] at e; subst e; exact h
  | s :: l, vs, r, ⟨x, y, h1, h2, e'⟩, e => by
    subst e'
    unfold words32 at e
    split at e
    · rename_i heq; cases heq
    · rename_i z l' heq
      obtain ⟨rfl, rfl⟩ := List.cons.inj heq
      split at e
      · rename_i r' hr
        simp at e; subst e
        have h3 : x = [Value.int .u32 z.toNat] := h1
        rw [words32_is h2 hr, h3]
        rfl
      · cases e
    · rename_i k l' heq
      obtain ⟨rfl, rfl⟩ := List.cons.inj heq
      split at e
      · rename_i hk
        split at e
        · rename_i r' hr
          simp at e; subst e
          obtain ⟨h3, _⟩ := h1
          rw [words32_is h2 hr, h3]
          simp [UInt32.toNat_ofNat_of_lt' hk]
        · cases e
      · cases e
    · cases e
theorem r32_vals {n : Nat} (l : List UInt32) (h : l.length = n) : ((List.range n).map fun i => Value.int .u32 ((pickN 0 l i).toNat : Int)) = l.map fun x => Value.int .u32 x.toNat := by
  subst h
  exact pickN_range 0 (fun x : UInt32 => Value.int .u32 x.toNat) l
def r32Parse (n : Nat) (l : List (SV A)) : Option (R32 n) :=
  match l with
  | [.a (.w32 m f)] => if m = n then some ⟨f⟩ else none
  | l =>
    match words32 (flat l) with
    | some r => if r.length = n then some ⟨pickN 0 r⟩ else none
    | none => none
instance (n : Nat) : Rep A (R32 n) where
  agg := true
  shw x := [.a (.w32 n x.f)]
  vals x := (List.range n).map fun i => .int .u32 (x.f i).toNat
  parse := r32Parse n
  is β x := ⟨_, [], rfl, rfl, by simp; rfl⟩
  only := by
    rintro β x vs ⟨u, y, h1, h2, rfl⟩
    obtain rfl : y = [] := h2
    have h3 : u = _ := h1
    simp [h3]
    rfl
  ok := by
    intro β l x vs h e
    unfold r32Parse at h
    split at h
    · rename_i m f
      split at h
      · rename_i hm
        subst hm
        simp at h; subst h
        obtain ⟨u, y, h1, h2, rfl⟩ := e
        obtain rfl : y = [] := h2
        have h3 : u = _ := h1
        simp [h3]
        rfl
      · cases h
    · split at h
      · rename_i r hr
        split at h
        · rename_i hl
          simp at h; subst h
          rw [words32_is (flat_is e) hr]
          exact (r32_vals r hl).symm
        · cases h
      · cases h
  single h := by cases h
instance (n : Nat) : Sized A (R32 n) := ⟨n, fun x => by show ((List.range n).map _).length = n; simp⟩
/-- A word of 32 bits. -/
instance : Rep A UInt32 where
  agg := false
  shw x := [.a (.u32 x)]
  vals x := [.int .u32 x.toNat]
  parse l := match l with
    | [.a (.u32 x)] => some x
    | [.v (.int .u32 (.ofNat n))] => if n < 4294967296 then some (UInt32.ofNat n) else none
    | _ => none
  is β x := ⟨_, [], rfl, rfl, by simp; rfl⟩
  only := by
    rintro β x vs ⟨u, y, h1, h2, rfl⟩
    obtain rfl : y = [] := h2
    have h3 : u = _ := h1
    simp [h3]
    rfl
  ok := by
    intro β l x vs h e
    split at h
    · rename_i z
      simp at h; subst h
      obtain ⟨u, y, h1, h2, rfl⟩ := e
      obtain rfl : y = [] := h2
      have h3 : u = _ := h1
      simp [h3]
      rfl
    · rename_i k
      split at h
      · rename_i hk
        simp at h; subst h
        obtain ⟨u, y, ⟨h1, _⟩, h2, rfl⟩ := e
        obtain rfl : y = [] := h2
        simp [h1, UInt32.toNat_ofNat_of_lt' hk]
      · cases h
    · cases h
  single _ x := ⟨_, rfl⟩
/-- Data that lie in memory cell by cell. -/
class Celled (T : Type) [Rep A T] where
  n : Nat
  cellA : T → Nat → A
  len : ∀ x : T, (Rep.vals A x).length = n
  cell : ∀ (x : T) (j : Nat), j < n → ∃ v, (Rep.vals A x)[j]? = some v ∧ Atom.cells (cellA x j) = [v]
  /-- as it's read of outside memory -/
  of : (Nat → A) → Nat → T
  must : (Nat → A) → Nat → Prop
  of_ok : ∀ {f : Nat → A} {i : Nat}, must f i → ∀ j, j < n → Atom.cells (f (i + j)) = Atom.cells (cellA (of f i) j)
/-- A pointer to such data. -/
structure Ptr (T : Type) where
  x : T
def ptrParse {T : Type} [Rep A T] [Celled T] (old : Addr → Option Value) (m : Mem A) : TV A → Option (Ptr T × List Prop)
  | .val false [.p i off] =>
    match nth m i with
    | some (some blk) =>
      match cut blk.cells off (Celled.n T) with
      | some l => (match Rep.parse l with | some x => some (⟨x⟩, []) | none => none)
      | none => none
    | _ => none
  | .val false [.q a f i] => some (⟨Celled.of f i⟩, [Reads old a f i (Celled.n T), Celled.must T f i])
  | .val false [.ka f i k] => (match Nat.ble (Celled.n T) k with | true => some (⟨Celled.of f i⟩, [Celled.must T f i]) | false => none)
  | _ => none
instance {T : Type} [Rep A T] [Celled T] : Arg A (Ptr T) where
  G := Addr
  good W a x := ∀ j, j < Celled.n T → ∃ v, W.cell? (a.add j) = some v ∧ Atom.cells (Celled.cellA x.x j) = [v]
  tv a x := .val false [.q (some a) (Celled.cellA x.x) 0]
  val a x := .pointer (some a)
  is := by
    intro W a x β _
    exact LIs.of_single ⟨a, rfl, by simp [Addr.add]⟩
  parse old m t := ptrParse old m t
  ok := by
    intro c X W0 W β m t x vc v h hvc hm e
    unfold ptrParse at h
    split at h
    · rename_i i off
      split at h
      · rename_i blk hb
        split at h
        · rename_i l hl
          split at h
          · rename_i y hy
            simp at h
            obtain ⟨rfl, rfl⟩ := h
            obtain ⟨b, hb1, e2⟩ := LIs.single (e : LIs β _ [v])
            simp at e2
            obtain ⟨b', vs, fz, hb2, hvs, hheap, _⟩ := hm.mem' hb hb1
            have : b' = b := by rw [hb1] at hb2; exact (Option.some.inj hb2).symm
            subst this
            obtain ⟨h1, h2⟩ := cut_is hvs hl
            have h3 := Rep.ok (A := A) hy h1
            refine ⟨⟨b', off, none⟩, fun j hj => ?_, e2⟩
            obtain ⟨u, k1, k2⟩ := Celled.cell y j hj
            refine ⟨u, ?_, k2⟩
            rw [add_none, cell_of_row W b' (off + j) _ _ fz hheap]
            rw [← h3, List.getElem?_take, if_pos hj, List.getElem?_drop] at k1
            simpa using k1
          · cases h
        · cases h
      · cases h
    · rename_i a f i
      simp at h
      obtain ⟨rfl, rfl⟩ := h
      obtain ⟨b, hb, e2⟩ := LIs.single (e : LIs β _ [v])
      subst hb
      simp at e2
      have h1 : Reads c.old (some b) f i (Celled.n T) := hvc _ (by simp)
      have h2 : Celled.must T f i := hvc _ (by simp)
      refine ⟨b.add i, fun j hj => ?_, e2⟩
      obtain ⟨u, k1, k2⟩ := h1 b rfl j hj
      exact ⟨u, by rw [Addr.add_add]; exact hm.cell k1, by rw [← Celled.of_ok h2 j hj]; exact k2⟩
    · rename_i f i k
      split at h
      · rename_i hk
        simp at h
        obtain ⟨rfl, rfl⟩ := h
        obtain ⟨ad, e2, hkn⟩ := LIs.single (e : LIs β _ [v])
        simp at e2
        have h2 : Celled.must T f i := hvc _ (by simp)
        have hle := Nat.le_of_ble_eq_true hk
        refine ⟨ad, fun j hj => ?_, e2⟩
        obtain ⟨u, k1, k2⟩ := hkn j (Nat.lt_of_lt_of_le hj hle)
        exact ⟨u, (hm.kn _ _ k1).1, by rw [← Celled.of_ok h2 j hj]; exact k2⟩
      · cases h
    · cases h
/-- Cell j behind i. -/
def at0 {α : Type} (f : Nat → α) : Nat → Nat → α
  | 0, j => f j
  | i + 1, j => f (i + 1 + j)
theorem at0_eq {α : Type} (f : Nat → α) (i j : Nat) : at0 f i j = f (i + j) := by cases i <;> simp [at0]
/-- A pointer to new memory with such data, which nobody writes. -/
structure Pz (T : Type) where
  x : T
instance {T : Type} [Rep A T] [Celled T] : Ret A (Pz T) where
  tv x := .val false [.ka (Celled.cellA x.x) 0 (Celled.n T)]
  good W n x v := ∃ a, v = .pointer (some a) ∧ ∀ j, j < Celled.n T → ∃ u, W.cell? (a.add j) = some u ∧ n ≤ (a.add j).block ∧ Atom.cells (Celled.cellA x.x j) = [u]
  is := by
    rintro W n x v ⟨a, rfl, h⟩
    refine ⟨fun a' u => ∃ j, j < Celled.n T ∧ a' = a.add j ∧ W.cell? (a.add j) = some u ∧ n ≤ (a.add j).block, ?_, fun β => LIs.of_single ⟨a, rfl, fun j hj => ?_⟩⟩
    · rintro a' u ⟨j, hj, rfl, h1, h2⟩
      exact ⟨h1, h2⟩
    · obtain ⟨u, h1, h2, h3⟩ := h j hj
      exact ⟨u, .inr ⟨j, hj, rfl, h1, h2⟩, by rw [Nat.zero_add]; exact h3⟩
  parse m t := match t with
    | .val false [.p i off] =>
      match nth m i with
      | some (some blk) =>
        match blk.ro, cut blk.cells off (Celled.n T) with
        | false, some l => (match Rep.parse l with | some x => some (⟨x⟩, []) | none => none)
        | _, _ => none
      | _ => none
    | _ => none
  ok := by
    intro c W0 W β m t x vc v h hvc hm e
    split at h
    · rename_i i off
      split at h
      · rename_i blk hb
        split at h
        · rename_i l hro hl
          split at h
          · rename_i y hy
            simp at h
            obtain ⟨rfl, rfl⟩ := h
            obtain ⟨b, hb1, e2⟩ := LIs.single (e : LIs β _ [v])
            simp at e2
            obtain ⟨b', vs, fz, hb2, hvs, hheap, hfz⟩ := hm.mem' hb hb1
            have : b' = b := by rw [hb1] at hb2; exact (Option.some.inj hb2).symm
            subst this
            obtain ⟨_, hnew⟩ := hfz hro
            have hnew : W0.heap.size ≤ b' := hnew.elim id (fun h => h.elim)
            obtain ⟨h1, h2⟩ := cut_is hvs hl
            have h3 := Rep.ok (A := A) hy h1
            refine ⟨⟨b', off, none⟩, e2, fun j hj => ?_⟩
            obtain ⟨u, k1, k2⟩ := Celled.cell y j hj
            refine ⟨u, ?_, by rw [add_none]; exact hnew, k2⟩
            rw [add_none, cell_of_row W b' (off + j) _ _ fz hheap]
            rw [← h3, List.getElem?_take, if_pos hj, List.getElem?_drop] at k1
            simpa using k1
          · cases h
        · cases h
      · cases h
    · cases h
def u32of : A → UInt32
  | .u32 x => x
  | _ => 0
def isU32 : A → Bool
  | .u32 _ => true
  | _ => false
instance (n : Nat) : Celled (R8 n) where
  n := n
  cellA x j := .u8 (x.f j)
  len x := by show ((List.range n).map _).length = n; simp
  cell x j hj := ⟨.int .u8 (x.f j).toNat, by show ((List.range n).map _)[j]? = _; simp [hj], rfl⟩
  of f i := ⟨fun j => u8of (at0 f i j)⟩
  must f i := ∀ j, j < n → isU8 (f (i + j)) = true
  of_ok {f i} h j hj := by
    have := h j hj
    cases hf : f (i + j) <;> rw [hf] at this <;> simp [isU8] at this
    simp [hf, u8of, at0_eq]
instance (n : Nat) : Celled (R32 n) where
  n := n
  cellA x j := .u32 (x.f j)
  len x := by show ((List.range n).map _).length = n; simp
  cell x j hj := ⟨.int .u32 (x.f j).toNat, by show ((List.range n).map _)[j]? = _; simp [hj], rfl⟩
  of f i := ⟨fun j => u32of (at0 f i j)⟩
  must f i := ∀ j, j < n → isU32 (f (i + j)) = true
  of_ok {f i} h j hj := by
    have := h j hj
    cases hf : f (i + j) <;> rw [hf] at this <;> simp [isU32] at this
    simp [hf, u32of, at0_eq]
/-- The rounds' words lie where they were laid. -/
def RoundsIn (old : Addr → Option Value) : Prop := Reads old (some ⟨0, 0, none⟩) (fun j => (.u32 (roundK j) : A)) 0 64
/-- Arguments, where the rounds' words lie where they were laid. -/
structure GA (Γ : Type) where
  x : Γ
instance {Γ : Type} [Args A Γ] : Args A (GA Γ) where
  G := Args.G A Γ
  good W g x := RoundsIn W.cell? ∧ Args.good W g x.x
  tvs g x := Args.tvs g x.x
  vals g x := Args.vals g x.x
  parse old m l := match Args.parse old m l with | some (x, vc) => some (⟨x⟩, RoundsIn old :: vc) | none => none
  is β h := Args.is β h.2
  ok := by
    intro c X W0 W β m l x vc vs h hvc hm e
    split at h
    · rename_i y vc' hy
      simp at h
      obtain ⟨rfl, rfl⟩ := h
      obtain ⟨g, h1, h2⟩ := Args.ok hy (fun p hp => hvc p (by simp [hp])) hm e
      refine ⟨g, ⟨?_, h1⟩, h2⟩
      have h3 : RoundsIn c.old := hvc _ (by simp)
      intro b hb j hj
      obtain ⟨v, k1, k2⟩ := h3 b hb j hj
      exact ⟨v, hm.cell k1, k2⟩
    · cases h
end Go.Sh

/- SHA-256: a block's words. -/
namespace Go.Sh
/-! Words of 32 bits, as they are reckoned. -/
def u32 (z : Int) : UInt32 := UInt32.ofNat (z % 4294967296).toNat
def b32 (x : UInt32) : BitVec IntKind.u32.bits := BitVec.ofInt IntKind.u32.bits (x.toNat : Int)
def add3 (x y : UInt32) : UInt32 := u32 ((x.toNat : Int) + (y.toNat : Int))
def xor3 (x y : UInt32) : UInt32 := u32 ((b32 x ^^^ b32 y).toNat : Int)
def or3 (x y : UInt32) : UInt32 := u32 ((b32 x ||| b32 y).toNat : Int)
def and3 (x y : UInt32) : UInt32 := u32 ((b32 x &&& b32 y).toNat : Int)
def not3 (x : UInt32) : UInt32 := u32 ((BitVec.ofInt IntKind.u32.bits (if IntKind.u32.signed then -1 else IntKind.u32.max) ^^^ b32 x).toNat : Int)
def shr3 (x : UInt32) (n : Nat) : UInt32 := UInt32.ofNat (x.toNat / 2 ^ min n IntKind.u32.bits)
def shl3 (x : UInt32) (n : Nat) : UInt32 := u32 ((x.toNat : Int) * 2 ^ min n IntKind.u32.bits)
def byte3 (x : UInt8) : UInt32 := u32 (x.toNat : Int)
/-- Turned to the right. -/
def rot3 (x : UInt32) (n : Nat) : UInt32 := or3 (shl3 x (32 - n)) (shr3 x n)
def sig0 (x : UInt32) : UInt32 := xor3 (xor3 (rot3 x 7) (rot3 x 18)) (shr3 x 3)
def sig1 (x : UInt32) : UInt32 := xor3 (xor3 (rot3 x 17) (rot3 x 19)) (shr3 x 10)
/-- One of the later words. -/
def wStep (f : Nat → UInt32) (k : Nat) : Nat → UInt32 :=
  upd f (k : Int).toNat (add3 (add3 (add3 (f ((k : Int) - 16).toNat) (sig0 (f ((k : Int) - 15).toNat))) (f ((k : Int) - 7).toNat)) (sig1 (f ((k : Int) - 2).toNat)))
def wIt (f : Nat → UInt32) : Nat → (Nat → UInt32)
  | 0 => f
  | i + 1 => wStep (wIt f i) (16 + i)
/-- One of the first words. -/
def wHead (g : Nat → UInt8) (k : Nat) : UInt32 :=
  or3 (or3 (or3 (shl3 (byte3 (g (4 * (k : Int)).toNat)) 24) (shl3 (byte3 (g (4 * (k : Int) + 1).toNat)) 16)) (shl3 (byte3 (g (4 * (k : Int) + 2).toNat)) 8)) (byte3 (g (4 * (k : Int) + 3).toNat))
def z64 : Nat → UInt32 := pickN 0 (List.replicate 64 (UInt32.ofNat 0))
def wFirst (g : Nat → UInt8) : Nat → (Nat → UInt32)
  | 0 => z64
  | k + 1 => upd (wFirst g k) (k : Int).toNat (wHead g k)
/-- A block's words. -/
def wordsF (g : Nat → UInt8) : Nat → UInt32 := wIt (wFirst g 16) 48
/-- A number of 64 bits in its bounds; an index in its. -/
def WI (z : Int) : Prop := IntKind.i64.wrap z = z
theorem wI {z : Int} (h1 : -9223372036854775808 ≤ z) (h2 : z ≤ 9223372036854775807) : WI z := by
  unfold WI IntKind.wrap
  simp only [IntKind.bits, IntKind.signed]
  simp
  omega
def IX (z : Int) (n : Nat) : Prop := 0 ≤ z ∧ z < n
end Go.Sh
namespace Go.Proofs.YtaloefkkllebeaaDoor
open Go Go.Sh
def zer64 : List (SV A) := (List.replicate 64 (.v (.int .u32 0)))
noncomputable def rotRow : Row A := rowIn Tryd.prog [] [] (fun _ _ => .keep) 4 119 Tryd.f119
theorem rotRow_ok : RowOK Tryd.prog rotRow := rowIn_ok (TblOK.nil _) (ITblOK.nil _) _ 4 Tryd.func119 (by kernel_rfl) (by kernel_rfl)
def wS1 (a : Addr) (g : Nat → UInt8) (f : Nat → UInt32) (k : Nat) : St A :=
  ⟨slots 0 97 [(0, .val false [.q (some a) (fun j => .u8 (g j)) 0]), (2, .val false [.p 0 0]), (3, .val false [.p 1 0]), (10, .val false [.n .i64 k])], [some ⟨zer64, 138, false⟩, some ⟨[.a (.w32 64 f)], 138, false⟩], 0, [], []⟩
def wE1 (a : Addr) (g : Nat → UInt8) (f : Nat → UInt32) : St A :=
  ⟨slots 0 97 [(0, .val false [.q (some a) (fun j => .u8 (g j)) 0]), (2, .val false [.p 0 0]), (3, .val false [.p 1 0])], [some ⟨zer64, 138, false⟩, some ⟨[.a (.w32 64 f)], 138, false⟩], 0, [], []⟩
def wS2 (a : Addr) (g : Nat → UInt8) (f : Nat → UInt32) (k : Nat) : St A :=
  ⟨slots 0 97 [(0, .val false [.q (some a) (fun j => .u8 (g j)) 0]), (2, .val false [.p 0 0]), (3, .val false [.p 1 0]), (5, .val false [.n .i64 k])], [some ⟨zer64, 138, false⟩, some ⟨[.a (.w32 64 f)], 138, false⟩], 0, [], []⟩
def ReadQ (old : Addr → Option Value) (a : Addr) (g : Nat → UInt8) (i : Nat) : Prop := Reads old (some a) (fun j => (.u8 (g j) : A)) i 1
section
variable {W : World} (a : Addr) (g : Nat → UInt8) (hr : ∀ i, i < 64 → ReadQ W.cell? a g i) {k : Cfg A} (e1 : k.P = Tryd.prog) (e2 : k.gl = (fun _ => none)) (e3 : k.old = W.cell?) (e4 : k.ys = [])
include e1 e2 e3 e4
include hr in
theorem wS1_one (f : Nat → UInt32) (i : Nat) (hi : i < 16) : Round k (loopNo Tryd.f118 3) (wS1 a g f i) .normal (wS1 a g (upd f (i : Int).toNat (wHead g i)) (i + 1)) :=
  Round.of0 (.cons rotRow_ok (.nil _)) (says [(11, true)]) 4
    [WI ((i : Int) + 1), IX (i : Int) 64, ReadQ W.cell? a g (4 * (i : Int) + 3).toNat, IX (4 * (i : Int) + 3) 64, WI (4 * (i : Int) + 3), WI (4 * (i : Int)), ReadQ W.cell? a g (4 * (i : Int) + 2).toNat, IX (4 * (i : Int) + 2) 64, WI (4 * (i : Int) + 2), WI (4 * (i : Int)),
      ReadQ W.cell? a g (4 * (i : Int) + 1).toNat, IX (4 * (i : Int) + 1) 64, WI (4 * (i : Int) + 1), WI (4 * (i : Int)), ReadQ W.cell? a g (4 * (i : Int)).toNat, IX (4 * (i : Int)) 64, WI (4 * (i : Int)), decide ((i : Int) < 16) = true]
    (by kernel_rfl)
    ⟨wI (by omega) (by omega), ⟨by omega, by omega⟩, hr _ (by omega), ⟨by omega, by omega⟩, wI (by omega) (by omega), wI (by omega) (by omega), hr _ (by omega), ⟨by omega, by omega⟩, wI (by omega) (by omega), wI (by omega) (by omega),
      hr _ (by omega), ⟨by omega, by omega⟩, wI (by omega) (by omega), wI (by omega) (by omega), hr _ (by omega), ⟨by omega, by omega⟩, wI (by omega) (by omega), decide_eq_true (by omega), trivial⟩ (by kernel_rfl) (by kernel_rfl) e1 e2 e3 e4
theorem wS1_end (f : Nat → UInt32) : Round k (loopNo Tryd.f118 3) (wS1 a g f 16) (.exit 0) (wE1 a g f) :=
  Round.of0 (.cons rotRow_ok (.nil _)) (says [(11, false)]) 4 [decide (((16 : Nat) : Int) < 16) = false] (by kernel_rfl) ⟨by decide, trivial⟩ (by kernel_rfl) (by kernel_rfl) e1 e2 e3 e4
theorem wS2_one (f : Nat → UInt32) (i : Nat) (h1 : 16 ≤ i) (hi : i < 64) : Round k (loopNo Tryd.f118 8) (wS2 a g f i) .normal (wS2 a g (wStep f i) (i + 1)) :=
  Round.of0 (.cons rotRow_ok (.nil _)) (says [(54, true)]) 4
    [WI ((i : Int) + 1), IX (i : Int) 64, IX ((i : Int) - 7) 64, WI ((i : Int) - 7), IX ((i : Int) - 16) 64, WI ((i : Int) - 16), IX ((i : Int) - 2) 64, WI ((i : Int) - 2), IX ((i : Int) - 15) 64, WI ((i : Int) - 15), decide ((i : Int) < 64) = true]
    (by kernel_rfl)
    ⟨wI (by omega) (by omega), ⟨by omega, by omega⟩, ⟨by omega, by omega⟩, wI (by omega) (by omega), ⟨by omega, by omega⟩, wI (by omega) (by omega), ⟨by omega, by omega⟩, wI (by omega) (by omega), ⟨by omega, by omega⟩, wI (by omega) (by omega), decide_eq_true (by omega), trivial⟩
    (by kernel_rfl) (by kernel_rfl) e1 e2 e3 e4
theorem wS2_end (f : Nat → UInt32) : Round k (loopNo Tryd.f118 8) (wS2 a g f 64) (.exit 2) (wE1 a g f) :=
  Round.of0 (.cons rotRow_ok (.nil _)) (says [(54, false)]) 4 [decide (((64 : Nat) : Int) < 64) = false] (by kernel_rfl) ⟨by decide, trivial⟩ (by kernel_rfl) (by kernel_rfl) e1 e2 e3 e4
end
theorem wLoop1 (W : World) (a : Addr) (g : Nat → UInt8) (hr : ∀ i, i < 64 → ReadQ W.cell? a g i) : SoundFor Tryd.prog W.cell? [] (.loop (loopNo Tryd.f118 3)) (wS1 a g z64 0) (.exit 0) (wE1 a g (wFirst g 16)) :=
  fun c q1 q2 q3 q4 => loopAt (c := c) (inv := fun i => wS1 a g (wFirst g i) i) (N := 16) (by simp) (fun i hi => wS1_one a g hr q1 q2 q3 q4 (wFirst g i) i hi) (wS1_end a g q1 q2 q3 q4 (wFirst g 16))
theorem wLoop2 (W : World) (a : Addr) (g : Nat → UInt8) (f : Nat → UInt32) : SoundFor Tryd.prog W.cell? [] (.loop (loopNo Tryd.f118 8)) (wS2 a g f 16) (.exit 2) (wE1 a g (wIt f 48)) :=
  fun c q1 q2 q3 q4 => loopAt (c := c) (inv := fun i => wS2 a g (wIt f i) (16 + i)) (N := 48) (by simp) (fun i hi => wS2_one a g (W := W) q1 q2 q3 q4 (wIt f i) (16 + i) (by omega) (by omega)) (wS2_end a g (W := W) q1 q2 q3 q4 (wIt f 48))
theorem words_ok : Computes A Tryd.prog 118 (fun x : Ptr (R8 64) × Unit => (⟨wordsF x.1.x.f⟩ : R32 64)) := by
  refine computes_of_runW (.cons rotRow_ok (.nil _)) (ITblOK.nil _) Tryd.func118 (by kernel_rfl) (by kernel_rfl) 4 ?_
  rintro ⟨a, _⟩ ⟨⟨⟨g⟩⟩, ⟨⟩⟩ W ⟨hg, _⟩
  have hr : ∀ i, i < 64 → ReadQ W.cell? a g i := by
    intro i hi b hb j hj
    obtain rfl := Option.some.inj hb
    obtain ⟨v, k1, k2⟩ := hg (i + j) (show i + j < 64 by omega)
    exact ⟨v, k1, k2⟩
  refine ⟨fun _ _ => .keep, lps [(3, wS1 a g z64 0, .exit 0, wE1 a g (wFirst g 16)), (8, wS2 a g (wFirst g 16) 16, .exit 2, wE1 a g (wIt (wFirst g 16) 48))], ⟨wordsF g⟩, [ToldIs (wS2 a g (wFirst g 16) 16), ToldIs (wS1 a g z64 0)], by kernel_rfl, ⟨toldIs _, toldIs _, trivial⟩, rfl, fun body hb => ?_⟩
  obtain rfl := Option.some.inj hb
  exact LoopsFor.cons (by kernel_rfl) (wLoop1 W a g hr) (LoopsFor.cons (by kernel_rfl) (wLoop2 W a g (wFirst g 16)) LoopsFor.nil)
end Go.Proofs.YtaloefkkllebeaaDoor

/- Functions that turn a block of the caller's: contracts, out of runs; rows of them. -/
namespace Go.Sh
/-- The world without a block's cells. -/
def gone (W : World) (b : Nat) : World := { W with heap := W.heap.setIfInBounds b (.deferred (some [])) }
theorem gone_size (W : World) (b : Nat) : (gone W b).heap.size = W.heap.size := by simp [gone]
theorem gone_at (W : World) {b k : Nat} (h : k ≠ b) : (gone W b).heap[k]? = W.heap[k]? := by
  simp only [gone, Array.getElem?_setIfInBounds]
  rw [if_neg (fun e => h e.symm)]
theorem gone_cell {W : World} {b : Nat} {a : Addr} {v : Value} (h : (gone W b).cell? a = some v) : a.block ≠ b ∧ W.cell? a = some v := by
  have hne : a.block ≠ b := by
    intro e
    obtain ⟨cs, t, fz, h1⟩ := cell?_heap h
    rw [e] at h1
    simp only [gone, Array.getElem?_setIfInBounds] at h1
    split at h1
    · split at h1
      · cases h1
      · cases h1
    · rename_i hh; exact hh trivial
  exact ⟨hne, cell?_same h (gone_at W hne).symm⟩
variable {A : Type} [Atom A]
/-- Function g turns the block that its first arguments point into (at the offsets os), of data Δ, and yields a result. -/
def Turns (A : Type) [Atom A] {Δ Γ R : Type} [Rep A Δ] [Args A Γ] [Res A R] (P : Program) (g : FuncId) (ty : TypeId) (os : List Nat) (f : Δ → Γ → Δ × R) : Prop :=
  ∀ (gh : Args.G A Γ) (d : Δ) (x : Γ) (W : World) (b : Nat), W.heap[b]? = some (.cells (Rep.vals A d).toArray ty (0, 0)) → Args.good (gone W b) gh x →
    CallSem P g (os.map (fun o => Value.pointer (some ⟨b, o, none⟩)) ++ Args.vals gh x) W (fun v W' => v = Res.val A (f d x).2 ∧ W'.heap[b]? = some (.cells (Rep.vals A (f d x).1).toArray ty (0, 0)) ∧ Ext (fun k => k = b) W W' ∧ NC W W')
/-- The arguments behind the pointers into block i. -/
def ptrsOf (i : Nat) : List Nat → List (TV A) → Option (List (TV A))
  | [], l => some l
  | o :: os, .val false [.p j o'] :: l => if j = i ∧ o' = o then ptrsOf i os l else none
  | _, _ => none
def turnRow {Δ Γ R : Type} [Rep A Δ] [Args A Γ] [Res A R] (g : FuncId) (ty : TypeId) (os : List Nat) (f : Δ → Γ → Δ × R) : Row A where
  g := g
  e := fun old args m =>
    match args with
    | .val false [.p i o] :: _ =>
      match ptrsOf i os args, nth m i with
      | some rest, some (some blk) =>
        if blk.ro = false ∧ blk.ty = ty then
          match Rep.parse (T := Δ) blk.cells, Args.parse (Γ := Γ) old (setN m i none) rest with
          | some d, some (x, vc) => some (Res.tv (f d x).2, some (setN m i (some ⟨Rep.shw (f d x).1, ty, false⟩)), vc)
          | _, _ => none
        else none
      | _, _ => none
    | _ => none
theorem ptrsOf_is {β : Adr} {i b : Nat} (hb : β i = some b) : ∀ {os : List Nat} {args rest : List (TV A)} {vs : List Value}, ptrsOf i os args = some rest → TsIs β args vs → ∃ vs', vs = os.map (fun o => Value.pointer (some ⟨b, o, none⟩)) ++ vs' ∧ TsIs β rest vs'
  | [], args, rest, vs, h, e => by
    simp only [ptrsOf] at h
    obtain rfl := Option.some.inj h
    exact ⟨vs, rfl, e⟩
  | o :: os, [], _, _, h, _ => by cases h
  | o :: os, t :: l, rest, vs, h, e => by
    unfold ptrsOf at h
    split at h
    · rename_i hh; cases hh
    · rename_i heq hh
      obtain ⟨rfl, rfl⟩ := List.cons.inj hh
      injection heq with h3 h4
      subst h3 h4
      split at h
      · rename_i hj
        obtain ⟨rfl, rfl⟩ := hj
        obtain ⟨v, r, k1, k2, rfl⟩ := e
        obtain ⟨b', kb, kv⟩ := LIs.single (k1 : LIs β _ [v])
        have : b' = b := Option.some.inj (kb.symm.trans hb)
        subst this
        simp at kv; subst kv
        obtain ⟨vs', g1, g2⟩ := ptrsOf_is hb h k2
        exact ⟨vs', by rw [g1]; rfl, g2⟩
      · cases h
    · cases h
/-- Without block i. -/
theorem MRel.gone {c : Cfg A} {X : Nat → Prop} {W0 W : World} {β : Adr} {m : Mem A} (h : MRel c X W0 β m W) {i b : Nat} {blk : Blk A} (hi : nth m i = some (some blk)) (hb : β i = some b) (hro : blk.ro = false) :
    MRel c X W0 β (setN m i none) (Sh.gone W b) := by
  have hpl := h.plain hi hb
  obtain ⟨b', us, fz, g1, g2, g3, g4⟩ := h.mem' hi hb
  obtain rfl : b' = b := Option.some.inj (g1.symm.trans hb)
  obtain ⟨_, gx⟩ := g4 hro
  have entry : ∀ {j blk'}, nth (setN m i none) j = some (some blk') → i ≠ j ∧ nth m j = some (some blk') := by
    intro j blk' hj
    rw [nth_setN] at hj
    split at hj
    · split at hj <;> cases hj
    · rename_i e; exact ⟨e, hj⟩
  have hb0 : ∀ a : Addr, a.block = b' → wra β m i a := fun a e => .inl ⟨blk, hi, hpl, hro, by rw [e]; exact hb⟩
  have vin : ∀ {j b}, vecIn β (setN m i none) j b → vecIn β m j b := by
    rintro j b ⟨blk', v, n, l, cap, k1, k2, k3⟩
    exact ⟨blk', v, n, l, cap, (entry k1).2, k2, k3⟩
  refine ⟨fun j blk' hj hnv => ?_, fun j j' bj bj' b l1 l2 => h.inj j j' bj bj' b (entry l1).2 (entry l2).2, fun j b hj => by rw [gone_size]; exact h.dom j b hj,
    ⟨h.ext.os, h.ext.tape, h.ext.output, by rw [gone_size]; exact h.ext.size, fun k hk hx => ?_⟩, h.glob, h.old, fun k hk => ?_, fun a v hkn => ?_, fun j blk' v n l hj hvec => ?_, fun j b hvj j2 => ?_⟩
  · obtain ⟨hne, hj'⟩ := entry hj
    obtain ⟨b2, us2, fz2, k1, k2, k3, k4⟩ := h.mem j blk' hj' hnv
    have : b2 ≠ b' := fun e => hne (h.inj i j blk blk' b' hi hj' hb (by rw [k1, e]))
    exact ⟨b2, us2, fz2, k1, k2, by rw [gone_at W this]; exact k3, k4⟩
  · have : k ≠ b' := fun e => by subst e; rcases gx with gx | gx; · omega
                                 · exact hx gx
    rw [gone_at W this]
    exact h.ext.block k hk hx
  · obtain ⟨k1, k2⟩ := h.nc k hk
    have : k ≠ b' := fun e => by rw [e, g3] at k1; cases k1
    exact ⟨by rw [gone_at W this]; exact k1, k2⟩
  · obtain ⟨k1, k2, k3⟩ := h.kn a v hkn
    have : a.block ≠ b' := fun e => k3 i (hb0 a e)
    refine ⟨cell?_same k1 (gone_at W this), k2, fun j hw => k3 j ?_⟩
    rcases hw with ⟨blk', w1, w2, w3, w4⟩ | ⟨blk', v1, n1, l1, cap1, w1, w2, w3⟩
    · exact .inl ⟨blk', (entry w1).2, w2, w3, w4⟩
    · exact .inr ⟨blk', v1, n1, l1, cap1, (entry w1).2, w2, w3⟩
  · obtain ⟨hne, hj'⟩ := entry hj
    refine (h.vec j blk' v n l hj' hvec).kept (fun _ _ _ h => h) (fun b cap hb2 => gone_at W (fun e => ?_))
    subst e
    exact (h.sep j b ⟨blk', v, n, l, cap, hj', hvec, hb2⟩ i).1 blk hi hb
  · obtain ⟨s1, s2⟩ := h.sep j b (vin hvj) j2
    exact ⟨fun blk2 h2 e => s1 blk2 (entry h2).2 e, fun hv2 => s2 (vin hv2)⟩
theorem Turns.row {P : Program} {Δ Γ R : Type} [Rep A Δ] [Args A Γ] [Res A R] {g : FuncId} {ty : TypeId} {os : List Nat} {f : Δ → Γ → Δ × R} (h : Turns A P g ty os f) : RowOK P (turnRow (A := A) g ty os f) := by
  intro c args m res mm vc _ he hvc X W0 W β vs _ hm hvs
  simp only [turnRow] at he
  split at he
  · rename_i i o tl
    split at he
    · rename_i rest blk hrest hi
      split at he
      · rename_i hrt
        obtain ⟨hro, hty⟩ := hrt
        split at he
        · rename_i d x vc' hd hx
          simp at he
          obtain ⟨rfl, rfl, rfl⟩ := he
          intro htop
          have hvs' := hvs
          obtain ⟨v0, r0, k1, k2, rfl⟩ := hvs'
          obtain ⟨b, hb, _⟩ := LIs.single (k1 : LIs β _ [v0])
          obtain ⟨vs', hv1, hv2⟩ := ptrsOf_is hb hrest hvs
          obtain ⟨b', us, fz, g1, g2, g3, g4⟩ := hm.mem' hi hb
          obtain rfl : b' = b := Option.some.inj (g1.symm.trans hb)
          obtain ⟨rfl, gx⟩ := g4 hro
          have hus := Rep.ok (A := A) hd g2
          rw [hus, hty] at g3
          obtain ⟨gh, hg, hvals⟩ := Args.ok hx hvc (hm.gone hi hb hro) hv2
          rw [hv1, hvals]
          refine (h gh d x W b' g3 hg).mono ?_
          rintro v W' ⟨rfl, hW', hext, hnc⟩
          refine ⟨β, Adr.le_refl β, Res.is β _, ?_, htop.setN, hnc⟩
          have hs1 : ∀ k, (W'.setRow b' (Rep.vals A d).toArray).heap[k]? = if k = b' then some (.cells (Rep.vals A d).toArray ty (0, 0)) else W'.heap[k]? := fun k => setRow_at W' b' k _ _ _ _ hW'
          have hk : Keeps W (W'.setRow b' (Rep.vals A d).toArray) := ⟨hext.os, hext.tape, hext.output, by rw [size_setRow]; exact hext.size, fun k hk _ => by
            rw [hs1]
            split
            · rename_i e; rw [e]; exact g3.symm
            · rename_i e; exact hext.block k hk e⟩
          have hm1 := hm.keeps hk
          have hm2 := hm1.setRow (us := Rep.vals A d) (cells := Rep.shw (f d x).1) (vs := Rep.vals A (f d x).1) hb hi hro (by rw [hs1, if_pos rfl, hty]) (Rep.is β _)
          have hW2 : (W'.setRow b' (Rep.vals A d).toArray).setRow b' (Rep.vals A (f d x).1).toArray = W' := by
            have hh : ((W'.setRow b' (Rep.vals A d).toArray).setRow b' (Rep.vals A (f d x).1).toArray).heap = W'.heap := by
              apply Array.ext_getElem?
              intro k
              rw [setRow_at _ b' k _ _ _ _ (by rw [hs1, if_pos rfl]), hs1]
              split
              · rename_i e; rw [e]; exact hW'.symm
              · rfl
            have e : ∀ (W : World) (u v : Array Value), (W.setRow b' u).setRow b' v = { W with heap := ((W.setRow b' u).setRow b' v).heap } := fun _ _ _ => rfl
            rw [e, hh]
          rw [hW2, hty] at hm2
          exact hm2
        · cases he
      · cases he
    · cases he
  · cases he
/-- What a run leaves in its first block. -/
def turned (Δ : Type) [Rep A Δ] (ty : TypeId) (m : Mem A) : Option Δ :=
  match nth m 0 with
  | some (some ⟨cells, t, false⟩) => if t = ty then Rep.parse cells else none
  | _ => none
theorem turns_of_runT {P : Program} {Δ Γ R : Type} [Rep A Δ] [Args A Γ] [Res A R] {g : FuncId} {fn : Func} {ty : TypeId} {os : List Nat} {f : Δ → Γ → Δ × R} (hf : P.funcs[g]? = some fn)
    (hn : (fn.name == "runtime.NumGoroutine") = false) (hb : fn.body.isNone = false) (fuel : Nat)
    (h : ∀ (gh : Args.G A Γ) (d : Δ) (x : Γ) (W : World), Args.good W gh x → ∃ (tbl : List (Row A)) (its : List (IRow A)), TblOK P tbl ∧ ITblOK P its ∧ ∃ orc lp y d' vc,
      (run (cfgW P tbl its orc W.cell? lp [] noYield) fuel fn (os.map (fun o => TV.val false [.p 0 o]) ++ Args.tvs gh x) [some ⟨Rep.shw d, ty, false⟩]).map (fun r => (Res.parse (A := A) (R := R) r.1, turned Δ ty r.2.1, r.2.2)) = some (some y, some d', vc) ∧ All vc ∧ (d', y) = f d x ∧
      ∀ body, fn.body = some body → LoopsFor P W.cell? [] lp body) : Turns A P g ty os f := by
  intro gh d x W b hW hg
  obtain ⟨tbl, its, ht, hi, orc, lp, y, d', vc, h1, h2, h3, h4⟩ := h gh d x (gone W b) hg
  refine .inr ⟨callFunc_enter hf hn hb _ W, ?_⟩
  cases hr : run (cfgW P tbl its orc (gone W b).cell? lp [] noYield) fuel fn (os.map (fun o => TV.val false [.p 0 o]) ++ Args.tvs gh x) [some ⟨Rep.shw d, ty, false⟩] with
  | none => rw [hr] at h1; cases h1
  | some z =>
    obtain ⟨res, m', vc'⟩ := z
    rw [hr] at h1
    simp only [Option.map_some, Option.some.injEq, Prod.mk.injEq] at h1
    obtain ⟨k1, k2, rfl⟩ := h1
    have hvec : (⟨Rep.shw d, ty, false⟩ : Blk A).vec = none := by
      unfold Blk.vec
      split
      · rename_i heq
        change Rep.shw d = _ at heq
        have := Rep.is Adr.nil (A := A) d
        rw [heq] at this
        obtain ⟨_, _, h1, _⟩ := this
        exact h1.elim
      · rfl
    have one : ∀ i blk, nth [some (⟨Rep.shw d, ty, false⟩ : Blk A)] i = some (some blk) → i = 0 ∧ blk = ⟨Rep.shw d, ty, false⟩ := by
      intro i blk hi
      cases i with
      | zero => simp [nth] at hi; exact ⟨rfl, hi.symm⟩
      | succ i => simp [nth] at hi
    have hm : MRel (cfgW P tbl its orc (gone W b).cell? lp [] noYield) (fun k => k = b) W (Adr.nil.put 0 b) [some ⟨Rep.shw d, ty, false⟩] W := by
      refine ⟨fun i blk hi _ => ?_, fun i j bi bj b' li lj _ _ => (by rw [(one i bi li).1, (one j bj lj).1]), fun i b' hi => ?_, Ext.refl _ _, fun g i hi => (by cases hi), fun a v e => ?_, fun k hk => hk.elim, fun a v hk => hk.elim, fun i blk v n l hi hv => ?_, fun i b' hv => ?_⟩
      · obtain ⟨rfl, rfl⟩ := one i blk hi
        exact ⟨b, Rep.vals A d, (0, 0), by rw [Adr.put_at]; simp, Rep.is _ d, hW, fun _ => ⟨rfl, .inr rfl⟩⟩
      · rw [Adr.put_at] at hi
        split at hi
        · obtain rfl := Option.some.inj hi
          exact (Array.getElem?_eq_some_iff.1 hW).1
        · cases hi
      · obtain ⟨q1, q2⟩ := gone_cell e
        exact ⟨q2, cell?_lt q2, q1⟩
      · obtain ⟨_, rfl⟩ := one i blk hi
        rw [hvec] at hv; cases hv
      · obtain ⟨blk, v, n, l, cap, q1, q2, _⟩ := hv
        obtain ⟨_, rfl⟩ := one i blk q1
        rw [hvec] at q2; cases q2
    have htop : Top (Adr.nil.put 0 b) [some (⟨Rep.shw d, ty, false⟩ : Blk A)] := fun i hi => ⟨by
      rw [Adr.put_at, if_neg (by simp at hi; omega)]; rfl, fun _ => rfl⟩
    have hargs : ∀ os : List Nat, TsIs (Adr.nil.put 0 b) (os.map (fun o => (TV.val false [.p 0 o] : TV A)) ++ Args.tvs gh x) (os.map (fun o => Value.pointer (some ⟨b, o, none⟩)) ++ Args.vals gh x) := by
      intro os
      induction os with
      | nil => exact Args.is _ hg
      | cons o os ih => exact ⟨_, _, LIs.of_single ⟨b, by rw [Adr.put_at]; simp, rfl⟩, ih, rfl⟩
    have := run_sound (cfgOK0 ht hi orc (gone W b).cell? lp) rfl (c := cfgW P tbl its orc (gone W b).cell? lp [] noYield) hf (fun body hbd => h4 body hbd _ rfl rfl rfl rfl rfl) hr h2.mem hm htop (hargs os)
    refine this.mono ?_
    rintro e W' ⟨v, rfl, β', hle, hv, hm', _, hnc⟩
    refine ⟨v, rfl, ?_, ?_, hm'.ext, hnc⟩
    · rw [Res.ok k1 hv, ← h3]
    · unfold turned at k2
      split at k2
      · rename_i cells t hnth
        split at k2
        · rename_i hty
          subst hty
          obtain ⟨b', us, fz, g1, g2, g3, g4⟩ := hm'.mem' hnth (hle.pl 0 b (by rw [Adr.put_at]; simp))
          obtain rfl : b' = b := Option.some.inj (g1.symm.trans (hle.pl 0 b (by rw [Adr.put_at]; simp)))
          obtain ⟨rfl, _⟩ := g4 rfl
          rw [g3, Rep.ok (A := A) k2 g2, ← h3]
        · cases k2
      · cases k2
/-- No result. -/
instance : Res A Unit where
  tv _ := .tup []
  val _ := .tuple #[]
  is β _ := ⟨[], rfl, rfl⟩
  only := by rintro β x v ⟨vs, h, rfl⟩; obtain rfl : vs = [] := h; rfl
  parse
    | .tup [] => some ()
    | _ => none
  ok := by
    intro β t x v h e
    split at h
    · obtain ⟨vs, h1, rfl⟩ := e
      obtain rfl : vs = [] := h1
      rfl
    · cases h
end Go.Sh

/- SHA-256: a block is added to a state; a state as bytes. -/
namespace Go.Sh
abbrev V8 := UInt32 × UInt32 × UInt32 × UInt32 × UInt32 × UInt32 × UInt32 × UInt32
def big1 (e : UInt32) : UInt32 := xor3 (xor3 (rot3 e 6) (rot3 e 11)) (rot3 e 25)
def big0 (a : UInt32) : UInt32 := xor3 (xor3 (rot3 a 2) (rot3 a 13)) (rot3 a 22)
def tOf (kk w e f g h : UInt32) : UInt32 := add3 (add3 (add3 (add3 h (big1 e)) (xor3 (and3 e f) (and3 (not3 e) g))) kk) w
def uOf (a b c : UInt32) : UInt32 := add3 (big0 a) (xor3 (xor3 (and3 a b) (and3 a c)) (and3 b c))
/-- One round. -/
def rStep (kk w : UInt32) (v : V8) : V8 :=
  (add3 (tOf kk w v.2.2.2.2.1 v.2.2.2.2.2.1 v.2.2.2.2.2.2.1 v.2.2.2.2.2.2.2) (uOf v.1 v.2.1 v.2.2.1), v.1, v.2.1, v.2.2.1, add3 v.2.2.2.1 (tOf kk w v.2.2.2.2.1 v.2.2.2.2.2.1 v.2.2.2.2.2.2.1 v.2.2.2.2.2.2.2), v.2.2.2.2.1, v.2.2.2.2.2.1, v.2.2.2.2.2.2.1)
def rIt (w : Nat → UInt32) (v : V8) : Nat → V8
  | 0 => v
  | k + 1 => rStep (roundK k) (w k) (rIt w v k)
def v8 (f : Nat → UInt32) : V8 := (f 0, f 1, f 2, f 3, f 4, f 5, f 6, f 7)
def plus8 (f : Nat → UInt32) (v : V8) : Nat → UInt32 :=
  pickN 0 [add3 (f 0) v.1, add3 (f 1) v.2.1, add3 (f 2) v.2.2.1, add3 (f 3) v.2.2.2.1, add3 (f 4) v.2.2.2.2.1, add3 (f 5) v.2.2.2.2.2.1, add3 (f 6) v.2.2.2.2.2.2.1, add3 (f 7) v.2.2.2.2.2.2.2]
/-- A block, hashed. -/
def compF (f : Nat → UInt32) (g : Nat → UInt8) : Nat → UInt32 := plus8 f (rIt (wordsF g) (v8 f) 64)
def shrB (x : UInt32) (n : Nat) : UInt8 := UInt8.ofNat (((UInt32.ofNat (x.toNat / 2 ^ min n IntKind.u32.bits)).toNat : Int) % 256).toNat
def lowB (x : UInt32) : UInt8 := UInt8.ofNat ((x.toNat : Int) % 256).toNat
def four (x : UInt32) : List UInt8 := [shrB x 24, shrB x 16, shrB x 8, lowB x]
/-- A state's bytes. -/
def outF (f : Nat → UInt32) : Nat → UInt8 := pickN 0 (four (f 0) ++ four (f 1) ++ four (f 2) ++ four (f 3) ++ four (f 4) ++ four (f 5) ++ four (f 6) ++ four (f 7))
end Go.Sh
namespace Go.Proofs.YtaloefkkllebeaaDoor
open Go Go.Sh
noncomputable def tblAdd (F : (Nat → UInt8) → (Nat → UInt32)) : List (Row A) := [rowOf A 118 (fun x : Ptr (R8 64) × Unit => (⟨F x.1.x.f⟩ : R32 64)), rotRow]
def aMem (f w : Nat → UInt32) : Mem A := [some ⟨[.a (.w32 8 f)], 38, false⟩, some ⟨[.a (.w32 64 w)], 138, false⟩]
def aSl (a : Addr) (g : Nat → UInt8) (v : V8) : List (Nat × TV A) :=
  [(0, .val false [.p 0 0]), (1, .val false [.q (some a) (fun j => .u8 (g j)) 0]), (4, .val false [.p 1 0]), (5, .val false [.a (.u32 v.1)]), (6, .val false [.a (.u32 v.2.1)]), (7, .val false [.a (.u32 v.2.2.1)]), (8, .val false [.a (.u32 v.2.2.2.1)]),
    (9, .val false [.a (.u32 v.2.2.2.2.1)]), (10, .val false [.a (.u32 v.2.2.2.2.2.1)]), (11, .val false [.a (.u32 v.2.2.2.2.2.2.1)]), (12, .val false [.a (.u32 v.2.2.2.2.2.2.2)])]
def aS (a : Addr) (g : Nat → UInt8) (f w : Nat → UInt32) (v : V8) (k : Nat) : St A := ⟨slots 0 142 (aSl a g v ++ [(54, .val false [.n .i64 k])]), aMem f w, 0, [], []⟩
def aE (a : Addr) (g : Nat → UInt8) (f w : Nat → UInt32) (v : V8) : St A := ⟨slots 0 142 (aSl a g v), aMem f w, 0, [], []⟩
def ReadK (old : Addr → Option Value) (i : Nat) : Prop := Reads old (some ⟨0, 0, none⟩) (fun j => (.u32 (roundK j) : A)) i 1
theorem roundsIn_one {old : Addr → Option Value} (h : RoundsIn old) {i : Nat} (hi : i < 64) : ReadK old i := by
  intro b hb j hj
  obtain ⟨v, k1, k2⟩ := h b hb (i + j) (by omega)
  exact ⟨v, by simpa using k1, by simpa using k2⟩
section
variable (F : (Nat → UInt8) → (Nat → UInt32)) (ht : TblOK Tryd.prog (tblAdd F)) {old : Addr → Option Value} (hr : RoundsIn old) (a : Addr) (g : Nat → UInt8) (f w : Nat → UInt32) {k : Cfg A} (e1 : k.P = Tryd.prog) (e2 : k.gl = (fun _ => none)) (e3 : k.old = old) (e4 : k.ys = [])
include ht e1 e2 e3 e4
include hr in
theorem aS_one (v : V8) (i : Nat) (hi : i < 64) : Round k (loopNo Tryd.f86 3) (aS a g f w v i) .normal (aS a g f w (rStep (roundK i) (w i) v) (i + 1)) :=
  Round.of0 ht (says [(55, true)]) 4 [WI ((i : Int) + 1), IX (i : Int) 64, ReadK old i, IX (i : Int) 64, decide ((i : Int) < 64) = true] (by kernel_rfl)
    ⟨wI (by omega) (by omega), ⟨by omega, by omega⟩, roundsIn_one hr hi, ⟨by omega, by omega⟩, decide_eq_true (by omega), trivial⟩ (by kernel_rfl) (by kernel_rfl) e1 e2 e3 e4
theorem aS_end (v : V8) : Round k (loopNo Tryd.f86 3) (aS a g f w v 64) (.exit 0) (aE a g f w v) :=
  Round.of0 ht (says [(55, false)]) 4 [decide (((64 : Nat) : Int) < 64) = false] (by kernel_rfl) ⟨by decide, trivial⟩ (by kernel_rfl) (by kernel_rfl) e1 e2 e3 e4
end
theorem add_of (F : (Nat → UInt8) → (Nat → UInt32)) (ht : TblOK Tryd.prog (tblAdd F)) : Turns A Tryd.prog 86 38 [0] (fun (d : R32 8) (x : GA (Ptr (R8 64) × Unit)) => ((⟨plus8 d.f (rIt (F x.x.1.x.f) (v8 d.f) 64)⟩ : R32 8), ())) := by
  refine turns_of_runT Tryd.func86 (by kernel_rfl) (by kernel_rfl) 10 ?_
  rintro ⟨a, _⟩ ⟨f⟩ ⟨⟨⟨⟨g⟩⟩, ⟨⟩⟩⟩ W ⟨hr, hg, _⟩
  have hs : SoundFor Tryd.prog W.cell? [] (.loop (loopNo Tryd.f86 3)) (aS a g f (F g) (v8 f) 0) (.exit 0) (aE a g f (F g) (rIt (F g) (v8 f) 64)) :=
    fun c q1 q2 q3 q4 => loopAt (c := c) (inv := fun i => aS a g f (F g) (rIt (F g) (v8 f) i) i) (N := 64) (by simp) (fun i hi => aS_one F ht hr a g f (F g) q1 q2 q3 q4 _ i hi) (aS_end F ht a g f (F g) q1 q2 q3 q4 _)
  have hq : Reads W.cell? (some a) (fun j => (.u8 (g j) : A)) 0 64 := by
    intro b hb j hj
    obtain rfl := Option.some.inj hb
    obtain ⟨v, k1, k2⟩ := hg j hj
    exact ⟨v, by rw [Nat.zero_add]; exact k1, by rw [Nat.zero_add]; exact k2⟩
  refine ⟨_, [], ht, ITblOK.nil _, fun _ _ => .keep, lps [(3, aS a g f (F g) (v8 f) 0, .exit 0, aE a g f (F g) (rIt (F g) (v8 f) 64))], (), ⟨plus8 f (rIt (F g) (v8 f) 64)⟩,
    [ToldIs (aS a g f (F g) (v8 f) 0), Reads W.cell? (some a) (fun j => (.u8 (g j) : A)) 0 64, ∀ j, j < 64 → isU8 ((fun j => (.u8 (g j) : A)) (0 + j)) = true], by kernel_rfl, ⟨toldIs _, hq, fun _ _ => rfl, trivial⟩, rfl, fun body hb => ?_⟩
  obtain rfl := Option.some.inj hb
  exact LoopsFor.cons (by kernel_rfl) hs LoopsFor.nil
end Go.Proofs.YtaloefkkllebeaaDoor

/- SHA-256: the first state, a state's bytes; the reference's table. -/
namespace Go.Sh
def firstL : List UInt32 := [UInt32.ofNat 1779033703, UInt32.ofNat 3144134277, UInt32.ofNat 1013904242, UInt32.ofNat 2773480762, UInt32.ofNat 1359893119, UInt32.ofNat 2600822924, UInt32.ofNat 528734635, UInt32.ofNat 1541459225]
def firstF : Nat → UInt32 := pickN 0 firstL
end Go.Sh
namespace Go.Proofs.YtaloefkkllebeaaDoor
open Go Go.Sh
theorem first_ok : Computes A Tryd.prog 85 (fun _ : Unit => (⟨firstF⟩ : R32 8)) :=
  computes_of_run0 (TblOK.nil _) Tryd.func85 (by kernel_rfl) (by kernel_rfl) 4 (fun _ _ _ => by kernel_rfl)
theorem bytesS_ok : Computes A Tryd.prog 87 (fun x : Ptr (R32 8) × Unit => (⟨outF x.1.x.f⟩ : R8 32)) := by
  refine computes_of_run (TblOK.nil _) Tryd.func87 (by kernel_rfl) (by kernel_rfl) 10 ?_
  rintro ⟨a, _⟩ ⟨⟨⟨f⟩⟩, ⟨⟩⟩ W ⟨hg, _⟩
  have hr : ∀ i, i < 8 → Reads W.cell? (some a) (fun j => (.u32 (f j) : A)) i 1 := by
    intro i hi b hb j hj
    obtain rfl := Option.some.inj hb
    exact hg (i + j) (show i + j < 8 by omega)
  refine ⟨fun _ _ => .keep, ⟨outF f⟩, [Reads W.cell? (some a) (fun j => (.u32 (f j) : A)) 7 1, IX 7 8, Reads W.cell? (some a) (fun j => (.u32 (f j) : A)) 6 1, IX 6 8, Reads W.cell? (some a) (fun j => (.u32 (f j) : A)) 5 1, IX 5 8, Reads W.cell? (some a) (fun j => (.u32 (f j) : A)) 4 1, IX 4 8,
    Reads W.cell? (some a) (fun j => (.u32 (f j) : A)) 3 1, IX 3 8, Reads W.cell? (some a) (fun j => (.u32 (f j) : A)) 2 1, IX 2 8, Reads W.cell? (some a) (fun j => (.u32 (f j) : A)) 1 1, IX 1 8, Reads W.cell? (some a) (fun j => (.u32 (f j) : A)) 0 1, IX 0 8], by kernel_rfl, ?_, rfl⟩
  refine ⟨hr 7 (by omega), ⟨by decide, by decide⟩, hr 6 (by omega), ⟨by decide, by decide⟩, hr 5 (by omega), ⟨by decide, by decide⟩, hr 4 (by omega), ⟨by decide, by decide⟩, hr 3 (by omega), ⟨by decide, by decide⟩, hr 2 (by omega), ⟨by decide, by decide⟩, hr 1 (by omega), ⟨by decide, by decide⟩, hr 0 (by omega), ⟨by decide, by decide⟩, trivial⟩
end Go.Proofs.YtaloefkkllebeaaDoor

/- SHA-256: the sum of any bytes. -/
namespace Go.Sh
def rangeA (fn : Func) (id : Nat) : Code := match fn.body with | some x => (match findNo id (loopsOf x) with | .rangeFunc _ _ x _ => x | y => y) | none => .skip
/-- Slots i .. i + n - 1: those of a list (in order), the others not yet set. -/
def slotsU {A : Type} : Nat → Nat → List (Nat × TV A) → List (TV A)
  | _, 0, _ => []
  | i, n + 1, l =>
    match l with
    | (j, v) :: r => match Nat.beq i j with | true => v :: slotsU (i + 1) n r | false => undefT :: slotsU (i + 1) n l
    | [] => undefT :: slotsU (i + 1) n []
def extB (l : List UInt8) (i : Nat) : Nat → List UInt8
  | 0 => []
  | n + 1 => l.getD i 0 :: extB l (i + 1) n
/-- The block at i. -/
def blkF (l : List UInt8) (i : Nat) : Nat → UInt8 := pickN 0 (extB l i 64)
/-- What is left, the mark, noughts. -/
def pad0 (l : List UInt8) (o r : Nat) : Nat → UInt8 := fun j => match Nat.blt j (min r (64 - 0)) with | true => l.getD (o + j) 0 | false => pickN 0 (List.replicate 64 (UInt8.ofNat 0)) j
def pad1 (l : List UInt8) (o r : Nat) : Nat → UInt8 := upd (pad0 l o r) (r : Int).toNat (UInt8.ofNat 128)
/-- A byte of so many bits. -/
def lenBy (n i : Nat) : UInt8 := UInt8.ofNat (((UInt64.ofNat ((u64 (8 * ((u64 (n : Int)).toNat : Int))).toNat / 2 ^ min (8 * i) IntKind.u64.bits)).toNat : Int) % 256).toNat
def lens (n : Nat) : List UInt8 := [lenBy n 7, lenBy n 6, lenBy n 5, lenBy n 4, lenBy n 3, lenBy n 2, lenBy n 1, lenBy n 0]
def lastA (l : List UInt8) (o r n : Nat) : Nat → UInt8 := pickN 0 ((List.range 56).map (pad1 l o r) ++ lens n)
def lastB (n : Nat) : Nat → UInt8 := pickN 0 (List.replicate 56 (UInt8.ofNat 0) ++ lens n)
def offK : Nat → Nat
  | 0 => 0
  | k + 1 => 64 + offK k
def lenK (n : Nat) : Nat → Nat
  | 0 => n
  | k + 1 => lenK n k - 64
theorem offK_eq : ∀ k, offK k = 64 * k
  | 0 => rfl
  | k + 1 => by simp only [offK, offK_eq k]; omega
theorem lenK_eq (n : Nat) : ∀ k, lenK n k = n - 64 * k
  | 0 => rfl
  | k + 1 => by simp only [lenK, lenK_eq n k]; omega
end Go.Sh
namespace Go.Proofs.YtaloefkkllebeaaDoor
open Go Go.Sh
section
variable (Fst : Nat → UInt32) (C : (Nat → UInt32) → (Nat → UInt8) → (Nat → UInt32)) (O : (Nat → UInt32) → (Nat → UInt8))
noncomputable def addR : Row A := turnRow 86 38 [0] (fun (d : R32 8) (x : GA (Ptr (R8 64) × Unit)) => ((⟨C d.f x.x.1.x.f⟩ : R32 8), ()))
noncomputable def blocksR : Row A := rowIn Tryd.prog [] [] (fun _ _ => .keep) 4 84 Tryd.f84
noncomputable def endingR : Row A := rowIn Tryd.prog [] [] (fun _ _ => .keep) 4 90 Tryd.f90
noncomputable def tblSum : List (Row A) :=
  [addR C, rowOf A 85 (fun _ : Unit => (⟨Fst⟩ : R32 8)), rowOf A 87 (fun x : Ptr (R32 8) × Unit => (⟨O x.1.x.f⟩ : R8 32)), blocksR]
/-- Noughts. -/
def zer8 (n : Nat) : List (SV A) := List.replicate n (.v (.int .u8 0))
variable (g : Spot) (l : List UInt8)
def slE (i n c : Nat) : SV A := .e g.a (byteAt l) i n c
def memS (s : Nat → UInt32) : Mem A :=
  [some ⟨zer8 32, 25, false⟩, some ⟨[.a (.w32 8 s)], 38, false⟩, some ⟨[slE g l 0 l.length g.c], 22, false⟩, none]
noncomputable def ysS : Ys A :=
  ⟨3, [8], rangeA Tryd.f26 3, rangeNo Tryd.f26 3, slotsU 0 11 [(0, .val false [slE g l 0 l.length g.c]), (2, .val false [.p 0 0]), (3, .val false [.p 1 0]), (5, .val true [.a (.w32 8 Fst)]), (6, .val false [slE g l 0 l.length g.c]), (7, .val false [.f 117 [(2, 0)]])]⟩
noncomputable def yfS (old : Addr → Option Value) : YF A := pushY (exec (cfg Tryd.prog [addR C] (fun _ _ => .keep) old) 4 (ysS Fst g l).assign) (exec (cfg Tryd.prog [addR C] (fun _ _ => .keep) old) 4 (ysS Fst g l).body) (ysS Fst g l) noYield
def inSu (s : Nat → UInt32) (k : Nat) : St A :=
  ⟨slots 0 28 [(0, .val false [.y 3]), (1, .val false [.p 2 0]), (2, .val false [.p 4 0]), (3, .val false [slE g l (offK k) (lenK l.length k) (lenK g.c k)])], memS g l s ++ [some ⟨[.y 3], 175, false⟩], 0, [], [none]⟩
def shaS : Nat → (Nat → UInt32)
  | 0 => Fst
  | k + 1 => C (shaS k) (blkF l (offK k))
section
variable {Fst C}
variable (hA : RowOK Tryd.prog (addR C)) {old : Addr → Option Value} (hr : RoundsIn old) {k : Cfg A} (e1 : k.P = Tryd.prog) (e2 : k.gl = (fun _ => none)) (e3 : k.old = old) (e4 : k.ys = [ysS Fst g l])
include hA in
theorem yfS_ok : YFOK Tryd.prog old [ysS Fst g l] (yfS Fst C g l old) :=
  YFOK.push (cfgOK0 (.cons hA (.nil _)) (ITblOK.nil _) (fun _ _ => .keep) old noLoop) 4 (ysS Fst g l) (loopsOK_none _ _ _ _ _ _ _ _) (loopsOK_none _ _ _ _ _ _ _ _)
include hA e1 e2 e3 e4
include hr in
theorem inSu_one (s : Nat → UInt32) (q : Nat) (hl : 64 ≤ lenK l.length q) (hc : 64 ≤ lenK g.c q) (hq : Reads old g.a (byteAt (B := FB) l) (offK q) 64) :
    Round k (loopNo Tryd.f117 2) (inSu g l s q) .normal (inSu g l (C s (blkF l (offK q))) (q + 1)) :=
  Round.of (TblOK.nil _) (ITblOK.nil _) (says [(8, true)]) noLoop (yfS_ok g l hA) 6
    [(0 : Int) ≤ 64 ∧ (64 : Int) ≤ ((lenK l.length q : Nat) : Int), RoundsIn old, Reads old g.a (byteAt (B := FB) l) (offK q) 64, 63 + 1 ≤ Int.toNat 64 - 0, (0 : Int) ≤ 64 ∧ (64 : Int) ≤ ((lenK g.c q : Nat) : Int), decide (((lenK l.length q : Nat) : Int) ≥ 64) = true]
    loopsFor_none (by kernel_rfl) ⟨⟨by decide, by omega⟩, hr, hq, by decide, ⟨by decide, by omega⟩, decide_eq_true (by omega), trivial⟩ (by kernel_rfl) (by kernel_rfl) e1 e2 e3 e4
theorem inSu_end (s : Nat → UInt32) (q : Nat) (hl : lenK l.length q < 64) :
    Round k (loopNo Tryd.f117 2) (inSu g l s q) (.exit 0) (inSu g l s q) :=
  Round.of (TblOK.nil _) (ITblOK.nil _) (says [(8, false)]) noLoop (yfS_ok g l hA) 6 [decide (((lenK l.length q : Nat) : Int) ≥ 64) = false]
    loopsFor_none (by kernel_rfl) ⟨decide_eq_false (by omega), trivial⟩ (by kernel_rfl) (by kernel_rfl) e1 e2 e3 e4
end
noncomputable def itsE (b : Bool) : List (IRow A) := [iter Tryd.prog [] [] (says [(14, b)]) 12 120 Tryd.f120]
noncomputable def itsS (b : Bool) (lp : Nat → Option (St A × Ex × St A)) : List (IRow A) := [iterW Tryd.prog [endingR] (itsE b) (fun _ _ => .keep) lp 8 117 Tryd.f117]
def sumF : Nat → UInt8 :=
  match Nat.blt (lenK l.length (l.length / 64)) 56 with
  | true => O (C (shaS Fst C l (l.length / 64)) (lastA l (offK (l.length / 64)) (lenK l.length (l.length / 64)) l.length))
  | false => O (C (C (shaS Fst C l (l.length / 64)) (pad1 l (offK (l.length / 64)) (lenK l.length (l.length / 64)))) (lastB l.length))
end
theorem reads_part {W : World} {l : List UInt8} {g : Spot} (h : HasBytes W l g) {i n : Nat} (hn : i + n ≤ l.length) : Reads W.cell? g.a (byteAt (B := FB) l) i n := by
  intro b hb j hj
  exact ⟨_, h.2.2 b hb (i + j) (by omega), rfl⟩
theorem inSu_loop {Fst : Nat → UInt32} {C : (Nat → UInt32) → (Nat → UInt8) → (Nat → UInt32)} (hA : RowOK Tryd.prog (addR C)) {W : World} (hr : RoundsIn W.cell?) {g : Spot} {l : List UInt8} (hg : HasBytes W l g) :
    SoundFor Tryd.prog W.cell? [ysS Fst g l] (.loop (loopNo Tryd.f117 2)) (inSu g l Fst 0) (.exit 0) (inSu g l (shaS Fst C l (l.length / 64)) (l.length / 64)) := by
  intro c q1 q2 q3 q4
  have hc := hg.1
  refine loopAt (c := c) (inv := fun i => inSu g l (shaS Fst C l i) i) (N := l.length / 64) (by simp) (fun i hi => inSu_one g l hA hr q1 q2 q3 q4 _ i ?_ ?_ ?_) (inSu_end g l hA q1 q2 q3 q4 _ _ ?_)
  · rw [lenK_eq]; omega
  · rw [lenK_eq]; omega
  · exact reads_part hg (by rw [offK_eq]; omega)
  · rw [lenK_eq]; omega
theorem sum_of (Fst : Nat → UInt32) (C : (Nat → UInt32) → (Nat → UInt8) → (Nat → UInt32)) (O : (Nat → UInt32) → (Nat → UInt8)) (ht : TblOK Tryd.prog (tblSum Fst C O)) (hA : RowOK Tryd.prog (addR C)) (hE : RowOK Tryd.prog endingR) :
    Computes A Tryd.prog 26 (fun x : GA (Bs × Unit) => (⟨sumF Fst C O x.x.1.l⟩ : R8 32)) := by
  refine computes_of_runT Tryd.func26 (by kernel_rfl) (by kernel_rfl) 8 ?_
  rintro ⟨g, _⟩ ⟨⟨⟨l⟩, ⟨⟩⟩⟩ W ⟨hr, hg, _⟩
  have hg : HasBytes W l g := hg
  have hs := inSu_loop (Fst := Fst) hA hr hg
  have hi : ∀ b lp, ITblOK Tryd.prog (itsS b lp) := fun b lp => .cons (iterW_ok (.cons hE (.nil _)) (.cons (iter_ok (TblOK.nil _) (ITblOK.nil _) _ 12 Tryd.func120 (by kernel_rfl) (by kernel_rfl)) (ITblOK.nil _)) _ lp 8 Tryd.func117 (by kernel_rfl) (by kernel_rfl)) (ITblOK.nil _)
  have hrd : Reads W.cell? g.a (byteAt (B := FB) l) (offK (l.length / 64)) (lenK l.length (l.length / 64)) := reads_part hg (by rw [offK_eq, lenK_eq]; omega)
  have hlt : lenK l.length (l.length / 64) < 64 := by rw [lenK_eq]; omega
  have hbl : ∀ body, Tryd.f117.body = some body → LoopsFor Tryd.prog W.cell? [ysS Fst g l] (lps [(2, inSu g l Fst 0, .exit 0, inSu g l (shaS Fst C l (l.length / 64)) (l.length / 64))]) body := fun body hb => by
    obtain rfl := Option.some.inj hb
    exact LoopsFor.cons (by kernel_rfl) hs LoopsFor.nil
  have hu : ∀ (n i : Nat), ∀ j, j < min n (64 - 0) → ∃ x, (fun q => byteAt (B := FB) l (i + q)) j = .u8 x := fun n i j _ => ⟨_, rfl⟩
  cases hb : Nat.blt (lenK l.length (l.length / 64)) 56 with
  | true =>
    have hb' : lenK l.length (l.length / 64) < 56 := by rwa [Nat.blt_eq] at hb
    refine ⟨_, _, ht, hi false (lps [(2, inSu g l Fst 0, .exit 0, inSu g l (shaS Fst C l (l.length / 64)) (l.length / 64))]), fun _ _ => .keep, noLoop,
      ⟨O (C (shaS Fst C l (l.length / 64)) (lastA l (offK (l.length / 64)) (lenK l.length (l.length / 64)) l.length))⟩,
      [∀ body, Tryd.f117.body = some body → LoopsFor Tryd.prog W.cell? [ysS Fst g l] (lps [(2, inSu g l Fst 0, .exit 0, inSu g l (shaS Fst C l (l.length / 64)) (l.length / 64))]) body,
        RoundsIn W.cell?, decide (((lenK l.length (l.length / 64) : Nat) : Int) ≥ 56) = false, IX (lenK l.length (l.length / 64)) 64, ∀ j, j < min (lenK l.length (l.length / 64)) (64 - 0) → ∃ x, (fun q => byteAt (B := FB) l (offK (l.length / 64) + q)) j = .u8 x,
        Reads W.cell? g.a (byteAt (B := FB) l) (offK (l.length / 64)) (lenK l.length (l.length / 64)), ToldIs (inSu g l Fst 0)], ?_, ⟨hbl, hr, decide_eq_false (by omega), ⟨by omega, by omega⟩, hu _ _, hrd, toldIs _, trivial⟩, ?_, fun body _ => loopsFor_none⟩
    · generalize shaS Fst C l (l.length / 64) = s
      generalize l.length / 64 = q
      kernel_rfl
    · simp only [sumF, hb]
  | false =>
    have hb' : ¬ lenK l.length (l.length / 64) < 56 := fun h => by rw [← Nat.blt_eq] at h; rw [h] at hb; cases hb
    refine ⟨_, _, ht, hi true (lps [(2, inSu g l Fst 0, .exit 0, inSu g l (shaS Fst C l (l.length / 64)) (l.length / 64))]), fun _ _ => .keep, noLoop,
      ⟨O (C (C (shaS Fst C l (l.length / 64)) (pad1 l (offK (l.length / 64)) (lenK l.length (l.length / 64)))) (lastB l.length))⟩,
      [∀ body, Tryd.f117.body = some body → LoopsFor Tryd.prog W.cell? [ysS Fst g l] (lps [(2, inSu g l Fst 0, .exit 0, inSu g l (shaS Fst C l (l.length / 64)) (l.length / 64))]) body,
        RoundsIn W.cell?, RoundsIn W.cell?, decide (((lenK l.length (l.length / 64) : Nat) : Int) ≥ 56) = true, IX (lenK l.length (l.length / 64)) 64, ∀ j, j < min (lenK l.length (l.length / 64)) (64 - 0) → ∃ x, (fun q => byteAt (B := FB) l (offK (l.length / 64) + q)) j = .u8 x,
        Reads W.cell? g.a (byteAt (B := FB) l) (offK (l.length / 64)) (lenK l.length (l.length / 64)), ToldIs (inSu g l Fst 0)], ?_, ⟨hbl, hr, hr, decide_eq_true (by omega), ⟨by omega, by omega⟩, hu _ _, hrd, toldIs _, trivial⟩, ?_, fun body _ => loopsFor_none⟩
    · generalize shaS Fst C l (l.length / 64) = s
      generalize l.length / 64 = q
      kernel_rfl
    · simp only [sumF, hb]
end Go.Proofs.YtaloefkkllebeaaDoor
