/- Rows of words of 32 bits; pointers to data; arguments beside the rounds' words. -/
import Derived.Test.YtaloefkkllebeaaDoorFm1
import Derived.Test.YtaloefkkllebeaaDoorProg
set_option linter.unusedVariables false
set_option linter.unusedSimpArgs false
set_option linter.unusedSectionVars false
namespace Go.Sh
/-- A row of n words of 32 bits. -/
structure R32 (n : Nat) where
  f : Nat → UInt32
def words32 : List (SV A) → Option (List UInt32)
  | [] => some []
  | .a (.u32 x) :: l => match words32 l with | some r => some (x :: r) | none => none
  | .v (.int .u32 (.ofNat n)) :: l => if n < 4294967296 then (match words32 l with | some r => some (UInt32.ofNat n :: r) | none => none) else none
  | _ => none
theorem words32_is {β : Adr} : ∀ {l : List (SV A)} {vs : List Value} {r : List UInt32}, LIs β l vs → words32 l = some r → vs = r.map fun x => Value.int .u32 x.toNat
  | [], vs, r, h, e => by simp [words32] at e; subst e; exact h
  | s :: l, vs, r, ⟨x, y, h1, h2, e'⟩, e => by
    subst e'
    unfold words32 at e
    split at e
    · rename_i heq; cases heq
    · rename_i z l' heq
      obtain ⟨rfl, rfl⟩ := List.cons.inj heq
      split at e
      · rename_i r' hr
        simp at e; subst e
        have h3 : x = [Value.int .u32 z.toNat] := h1
        rw [words32_is h2 hr, h3]
        rfl
      · cases e
    · rename_i k l' heq
      obtain ⟨rfl, rfl⟩ := List.cons.inj heq
      split at e
      · rename_i hk
        split at e
        · rename_i r' hr
          simp at e; subst e
          obtain ⟨h3, _⟩ := h1
          rw [words32_is h2 hr, h3]
          simp [UInt32.toNat_ofNat_of_lt' hk]
        · cases e
      · cases e
    · cases e
theorem r32_vals {n : Nat} (l : List UInt32) (h : l.length = n) : ((List.range n).map fun i => Value.int .u32 ((pickN 0 l i).toNat : Int)) = l.map fun x => Value.int .u32 x.toNat := by
  subst h
  exact pickN_range 0 (fun x : UInt32 => Value.int .u32 x.toNat) l
def r32Parse (n : Nat) (l : List (SV A)) : Option (R32 n) :=
  match l with
  | [.a (.w32 m f)] => if m = n then some ⟨f⟩ else none
  | l =>
    match words32 (flat l) with
    | some r => if r.length = n then some ⟨pickN 0 r⟩ else none
    | none => none
instance (n : Nat) : Rep A (R32 n) where
  agg := true
  shw x := [.a (.w32 n x.f)]
  vals x := (List.range n).map fun i => .int .u32 (x.f i).toNat
  parse := r32Parse n
  is β x := ⟨_, [], rfl, rfl, by simp; rfl⟩
  only := by
    rintro β x vs ⟨u, y, h1, h2, rfl⟩
    obtain rfl : y = [] := h2
    have h3 : u = _ := h1
    simp [h3]
    rfl
  ok := by
    intro β l x vs h e
    unfold r32Parse at h
    split at h
    · rename_i m f
      split at h
      · rename_i hm
        subst hm
        simp at h; subst h
        obtain ⟨u, y, h1, h2, rfl⟩ := e
        obtain rfl : y = [] := h2
        have h3 : u = _ := h1
        simp [h3]
        rfl
      · cases h
    · split at h
      · rename_i r hr
        split at h
        · rename_i hl
          simp at h; subst h
          rw [words32_is (flat_is e) hr]
          exact (r32_vals r hl).symm
        · cases h
      · cases h
  single h := by cases h
instance (n : Nat) : Sized A (R32 n) := ⟨n, fun x => by show ((List.range n).map _).length = n; simp⟩
/-- A word of 32 bits. -/
instance : Rep A UInt32 where
  agg := false
  shw x := [.a (.u32 x)]
  vals x := [.int .u32 x.toNat]
  parse l := match l with
    | [.a (.u32 x)] => some x
    | [.v (.int .u32 (.ofNat n))] => if n < 4294967296 then some (UInt32.ofNat n) else none
    | _ => none
  is β x := ⟨_, [], rfl, rfl, by simp; rfl⟩
  only := by
    rintro β x vs ⟨u, y, h1, h2, rfl⟩
    obtain rfl : y = [] := h2
    have h3 : u = _ := h1
    simp [h3]
    rfl
  ok := by
    intro β l x vs h e
    split at h
    · rename_i z
      simp at h; subst h
      obtain ⟨u, y, h1, h2, rfl⟩ := e
      obtain rfl : y = [] := h2
      have h3 : u = _ := h1
      simp [h3]
      rfl
    · rename_i k
      split at h
      · rename_i hk
        simp at h; subst h
        obtain ⟨u, y, ⟨h1, _⟩, h2, rfl⟩ := e
        obtain rfl : y = [] := h2
        simp [h1, UInt32.toNat_ofNat_of_lt' hk]
      · cases h
    · cases h
  single _ x := ⟨_, rfl⟩
/-- Data that lie in memory cell by cell. -/
class Celled (T : Type) [Rep A T] where
  n : Nat
  cellA : T → Nat → A
  len : ∀ x : T, (Rep.vals A x).length = n
  cell : ∀ (x : T) (j : Nat), j < n → ∃ v, (Rep.vals A x)[j]? = some v ∧ Atom.cells (cellA x j) = [v]
  /-- as it's read of outside memory -/
  of : (Nat → A) → Nat → T
  must : (Nat → A) → Nat → Prop
  of_ok : ∀ {f : Nat → A} {i : Nat}, must f i → ∀ j, j < n → Atom.cells (f (i + j)) = Atom.cells (cellA (of f i) j)
/-- A pointer to such data. -/
structure Ptr (T : Type) where
  x : T
def ptrParse {T : Type} [Rep A T] [Celled T] (old : Addr → Option Value) (m : Mem A) : TV A → Option (Ptr T × List Prop)
  | .val false [.p i off] =>
    match nth m i with
    | some (some blk) =>
      match cut blk.cells off (Celled.n T) with
      | some l => (match Rep.parse l with | some x => some (⟨x⟩, []) | none => none)
      | none => none
    | _ => none
  | .val false [.q a f i] => some (⟨Celled.of f i⟩, [Reads old a f i (Celled.n T), Celled.must T f i])
  | .val false [.ka f i k] => (match Nat.ble (Celled.n T) k with | true => some (⟨Celled.of f i⟩, [Celled.must T f i]) | false => none)
  | _ => none
instance {T : Type} [Rep A T] [Celled T] : Arg A (Ptr T) where
  G := Addr
  good W a x := ∀ j, j < Celled.n T → ∃ v, W.cell? (a.add j) = some v ∧ Atom.cells (Celled.cellA x.x j) = [v]
  tv a x := .val false [.q (some a) (Celled.cellA x.x) 0]
  val a x := .pointer (some a)
  is := by
    intro W a x β _
    exact LIs.of_single ⟨a, rfl, by simp [Addr.add]⟩
  parse old m t := ptrParse old m t
  ok := by
    intro c X W0 W β m t x vc v h hvc hm e
    unfold ptrParse at h
    split at h
    · rename_i i off
      split at h
      · rename_i blk hb
        split at h
        · rename_i l hl
          split at h
          · rename_i y hy
            simp at h
            obtain ⟨rfl, rfl⟩ := h
            obtain ⟨b, hb1, e2⟩ := LIs.single (e : LIs β _ [v])
            simp at e2
            obtain ⟨b', vs, fz, hb2, hvs, hheap, _⟩ := hm.mem' hb hb1
            have : b' = b := by rw [hb1] at hb2; exact (Option.some.inj hb2).symm
            subst this
            obtain ⟨h1, h2⟩ := cut_is hvs hl
            have h3 := Rep.ok (A := A) hy h1
            refine ⟨⟨b', off, none⟩, fun j hj => ?_, e2⟩
            obtain ⟨u, k1, k2⟩ := Celled.cell y j hj
            refine ⟨u, ?_, k2⟩
            rw [add_none, cell_of_row W b' (off + j) _ _ fz hheap]
            rw [← h3, List.getElem?_take, if_pos hj, List.getElem?_drop] at k1
            simpa using k1
          · cases h
        · cases h
      · cases h
    · rename_i a f i
      simp at h
      obtain ⟨rfl, rfl⟩ := h
      obtain ⟨b, hb, e2⟩ := LIs.single (e : LIs β _ [v])
      subst hb
      simp at e2
      have h1 : Reads c.old (some b) f i (Celled.n T) := hvc _ (by simp)
      have h2 : Celled.must T f i := hvc _ (by simp)
      refine ⟨b.add i, fun j hj => ?_, e2⟩
      obtain ⟨u, k1, k2⟩ := h1 b rfl j hj
      exact ⟨u, by rw [Addr.add_add]; exact hm.cell k1, by rw [← Celled.of_ok h2 j hj]; exact k2⟩
    · rename_i f i k
      split at h
      · rename_i hk
        simp at h
        obtain ⟨rfl, rfl⟩ := h
        obtain ⟨ad, e2, hkn⟩ := LIs.single (e : LIs β _ [v])
        simp at e2
        have h2 : Celled.must T f i := hvc _ (by simp)
        have hle := Nat.le_of_ble_eq_true hk
        refine ⟨ad, fun j hj => ?_, e2⟩
        obtain ⟨u, k1, k2⟩ := hkn j (Nat.lt_of_lt_of_le hj hle)
        exact ⟨u, (hm.kn _ _ k1).1, by rw [← Celled.of_ok h2 j hj]; exact k2⟩
      · cases h
    · cases h
/-- Cell j behind i. -/
def at0 {α : Type} (f : Nat → α) : Nat → Nat → α
  | 0, j => f j
  | i + 1, j => f (i + 1 + j)
theorem at0_eq {α : Type} (f : Nat → α) (i j : Nat) : at0 f i j = f (i + j) := by cases i <;> simp [at0]
/-- A pointer to new memory with such data, which nobody writes. -/
structure Pz (T : Type) where
  x : T
instance {T : Type} [Rep A T] [Celled T] : Ret A (Pz T) where
  tv x := .val false [.ka (Celled.cellA x.x) 0 (Celled.n T)]
  good W n x v := ∃ a, v = .pointer (some a) ∧ ∀ j, j < Celled.n T → ∃ u, W.cell? (a.add j) = some u ∧ n ≤ (a.add j).block ∧ Atom.cells (Celled.cellA x.x j) = [u]
  is := by
    rintro W n x v ⟨a, rfl, h⟩
    refine ⟨fun a' u => ∃ j, j < Celled.n T ∧ a' = a.add j ∧ W.cell? (a.add j) = some u ∧ n ≤ (a.add j).block, ?_, fun β => LIs.of_single ⟨a, rfl, fun j hj => ?_⟩⟩
    · rintro a' u ⟨j, hj, rfl, h1, h2⟩
      exact ⟨h1, h2⟩
    · obtain ⟨u, h1, h2, h3⟩ := h j hj
      exact ⟨u, .inr ⟨j, hj, rfl, h1, h2⟩, by rw [Nat.zero_add]; exact h3⟩
  parse m t := match t with
    | .val false [.p i off] =>
      match nth m i with
      | some (some blk) =>
        match blk.ro, cut blk.cells off (Celled.n T) with
        | false, some l => (match Rep.parse l with | some x => some (⟨x⟩, []) | none => none)
        | _, _ => none
      | _ => none
    | _ => none
  ok := by
    intro c W0 W β m t x vc v h hvc hm e
    split at h
    · rename_i i off
      split at h
      · rename_i blk hb
        split at h
        · rename_i l hro hl
          split at h
          · rename_i y hy
            simp at h
            obtain ⟨rfl, rfl⟩ := h
            obtain ⟨b, hb1, e2⟩ := LIs.single (e : LIs β _ [v])
            simp at e2
            obtain ⟨b', vs, fz, hb2, hvs, hheap, hfz⟩ := hm.mem' hb hb1
            have : b' = b := by rw [hb1] at hb2; exact (Option.some.inj hb2).symm
            subst this
            obtain ⟨_, hnew⟩ := hfz hro
            have hnew : W0.heap.size ≤ b' := hnew.elim id (fun h => h.elim)
            obtain ⟨h1, h2⟩ := cut_is hvs hl
            have h3 := Rep.ok (A := A) hy h1
            refine ⟨⟨b', off, none⟩, e2, fun j hj => ?_⟩
            obtain ⟨u, k1, k2⟩ := Celled.cell y j hj
            refine ⟨u, ?_, by rw [add_none]; exact hnew, k2⟩
            rw [add_none, cell_of_row W b' (off + j) _ _ fz hheap]
            rw [← h3, List.getElem?_take, if_pos hj, List.getElem?_drop] at k1
            simpa using k1
          · cases h
        · cases h
      · cases h
    · cases h
def u32of : A → UInt32
  | .u32 x => x
  | _ => 0
def isU32 : A → Bool
  | .u32 _ => true
  | _ => false
instance (n : Nat) : Celled (R8 n) where
  n := n
  cellA x j := .u8 (x.f j)
  len x := by show ((List.range n).map _).length = n; simp
  cell x j hj := ⟨.int .u8 (x.f j).toNat, by show ((List.range n).map _)[j]? = _; simp [hj], rfl⟩
  of f i := ⟨fun j => u8of (at0 f i j)⟩
  must f i := ∀ j, j < n → isU8 (f (i + j)) = true
  of_ok {f i} h j hj := by
    have := h j hj
    cases hf : f (i + j) <;> rw [hf] at this <;> simp [isU8] at this
    simp [hf, u8of, at0_eq]
instance (n : Nat) : Celled (R32 n) where
  n := n
  cellA x j := .u32 (x.f j)
  len x := by show ((List.range n).map _).length = n; simp
  cell x j hj := ⟨.int .u32 (x.f j).toNat, by show ((List.range n).map _)[j]? = _; simp [hj], rfl⟩
  of f i := ⟨fun j => u32of (at0 f i j)⟩
  must f i := ∀ j, j < n → isU32 (f (i + j)) = true
  of_ok {f i} h j hj := by
    have := h j hj
    cases hf : f (i + j) <;> rw [hf] at this <;> simp [isU32] at this
    simp [hf, u32of, at0_eq]
/-- The rounds' words lie where they were laid. -/
def RoundsIn (old : Addr → Option Value) : Prop := Reads old (some ⟨0, 0, none⟩) (fun j => (.u32 (roundK j) : A)) 0 64
/-- Arguments, where the rounds' words lie where they were laid. -/
structure GA (Γ : Type) where
  x : Γ
instance {Γ : Type} [Args A Γ] : Args A (GA Γ) where
  G := Args.G A Γ
  good W g x := RoundsIn W.cell? ∧ Args.good W g x.x
  tvs g x := Args.tvs g x.x
  vals g x := Args.vals g x.x
  parse old m l := match Args.parse old m l with | some (x, vc) => some (⟨x⟩, RoundsIn old :: vc) | none => none
  is β h := Args.is β h.2
  ok := by
    intro c X W0 W β m l x vc vs h hvc hm e
    split at h
    · rename_i y vc' hy
      simp at h
      obtain ⟨rfl, rfl⟩ := h
      obtain ⟨g, h1, h2⟩ := Args.ok hy (fun p hp => hvc p (by simp [hp])) hm e
      refine ⟨g, ⟨?_, h1⟩, h2⟩
      have h3 : RoundsIn c.old := hvc _ (by simp)
      intro b hb j hj
      obtain ⟨v, k1, k2⟩ := h3 b hb j hj
      exact ⟨v, hm.cell k1, k2⟩
    · cases h
end Go.Sh
