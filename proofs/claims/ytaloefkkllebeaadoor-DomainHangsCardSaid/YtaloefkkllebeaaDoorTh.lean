/- Slices of rows of bytes; a maker in a struct. -/
import Derived.Test.YtaloefkkllebeaaDoorTc
set_option linter.unusedVariables false
set_option linter.unusedSimpArgs false
set_option linter.unusedSectionVars false
set_option maxRecDepth 100000
namespace Go.Sh
/-- A slice's rows, of n bytes each. -/
structure Rs (n : Nat) where
  l : List (R8 n)
/-- Such a slice that a call leaves. -/
structure Rz (n : Nat) where
  l : List (R8 n)
def noR (n : Nat) : R8 n := ⟨fun _ => 0⟩
def rsB {n : Nat} (l : List (R8 n)) (j : Nat) : UInt8 := (l.getD (j / n) (noR n)).f (j % n)
def rsAt {n : Nat} (l : List (R8 n)) : Nat → A := fun j => .u8 (rsB l j)
theorem rsB_at {n : Nat} (l : List (R8 n)) (k j : Nat) (h : j < n) : rsB l (n * k + j) = (l.getD k (noR n)).f j := by
  unfold rsB
  rw [Nat.mul_add_div (by omega), Nat.div_eq_of_lt h, Nat.add_zero, Nat.mul_add_mod, Nat.mod_eq_of_lt h]
def HasRows {n : Nat} (W : World) (l : List (R8 n)) (g : Spot) : Prop :=
  l.length ≤ g.c ∧ (g.a = none → g.c = 0) ∧ ∀ a, g.a = some a → ∀ i, i < l.length * n → W.cell? (a.add i) = some (.int .u8 (rsB l i).toNat)
/-- Rows, cut out of cells. -/
def cutR (n : Nat) (f : Nat → UInt8) (m : Nat) : List (R8 n) := (List.range m).map fun k => ⟨fun j => f (n * k + j)⟩
theorem cutR_len (n : Nat) (f : Nat → UInt8) (m : Nat) : (cutR n f m).length = m := by simp [cutR]
theorem cutR_at (n : Nat) (f : Nat → UInt8) (m i : Nat) (h : i < m * n) : rsB (cutR n f m) i = f i := by
  have hn : 0 < n := by
    rcases Nat.eq_zero_or_pos n with h' | h'
    · subst h'; simp at h
    · exact h'
  have h1 : i / n < m := (Nat.div_lt_iff_lt_mul hn).2 h
  unfold rsB cutR
  rw [List.getD_eq_getElem?_getD, List.getElem?_map, List.getElem?_range h1]
  show f (n * (i / n) + i % n) = f i
  rw [Nat.div_add_mod]
def rsParse (n : Nat) (old : Addr → Option Value) (m : Mem A) : TV A → Option (Rs n × List Prop)
  | .val false [.e a f i k _] => some (⟨cutR n (fun j => u8of (f (i + j))) k⟩, [Reads old a f i (k * n), ∀ j, j < k * n → isU8 (f (i + j)) = true])
  | .val false [.kn f i k sz] => if sz = n then some (⟨cutR n (fun j => u8of (f (i + j))) k⟩, [∀ j, j < k * n → isU8 (f (i + j)) = true]) else none
  | .val false [.s i off k c] =>
    match nth m i with
    | some (some blk) =>
      match cut blk.cells off (k * n) with
      | some l =>
        match bytesL (flat l) with
        | some r => if k ≤ c then some (⟨cutR n (pickN 0 r) k⟩, []) else none
        | none => none
      | none => none
    | _ => none
  | .val false [.v (.slice none 0 0)] => some (⟨[]⟩, [])
  | _ => none
instance (n : Nat) : Arg A (Rs n) where
  G := Spot
  good W g x := HasRows W x.l g
  tv g x := .val false [.e g.a (rsAt x.l) 0 x.l.length g.c]
  val g x := spotVal x.l.length g
  is := by
    intro W g x β h
    obtain ⟨a, c⟩ := g
    obtain ⟨h1, h2, h3⟩ := h
    cases a with
    | none =>
      have hc : c = 0 := h2 rfl
      exact LIs.of_single ⟨by simp only at h1; omega, hc, rfl⟩
    | some a => exact LIs.of_single ⟨a, fun _ => (by simp [Addr.add]), h1, rfl⟩
  parse old m t := rsParse n old m (asKn t)
  ok := by
    intro c X W0 W β m t0 x vc v h hvc hm e
    replace e := asKn_is e
    revert h e
    generalize asKn t0 = t
    intro h e
    unfold rsParse at h
    split at h
    · rename_i a f i k cp
      simp at h
      obtain ⟨rfl, rfl⟩ := h
      have e1 := LIs.single (e : LIs β _ [v])
      cases a with
      | none =>
        obtain ⟨rfl, rfl, e2⟩ := e1
        simp at e2
        exact ⟨⟨none, 0⟩, ⟨Nat.le_refl _, fun _ => rfl, fun a ha => (by cases ha)⟩, e2⟩
      | some a =>
        obtain ⟨p, hp, hn, e2⟩ := e1
        simp at e2
        refine ⟨⟨some p, cp⟩, ⟨by simpa [cutR_len] using hn, fun ha => (by cases ha), fun b hb j hj => ?_⟩, by simpa [spotVal, cutR_len] using e2⟩
        obtain rfl := Option.some.inj hb
        rw [cutR_len] at hj
        have h1 : Reads c.old (some a) f i (k * n) := hvc _ (by simp)
        have h2 : ∀ j, j < k * n → isU8 (f (i + j)) = true := hvc _ (by simp)
        have hk : 0 < k := by
          rcases Nat.eq_zero_or_pos k with h' | h'
          · subst h'; simp at hj
          · exact h'
        rw [hp (by omega), Addr.add_add]
        obtain ⟨u, k1, k2⟩ := h1 a rfl j hj
        rw [hm.cell k1, isU8_cell (h2 j hj) k2, cutR_at _ _ _ _ hj]
    · rename_i f i k sz
      split at h
      · rename_i hsz
        subst hsz
        simp at h
        obtain ⟨rfl, rfl⟩ := h
        have e1 : knownIs β f i k sz [v] := LIs.single (e : LIs β _ [v])
        rcases e1 with ⟨rfl, e2⟩ | ⟨p, cp, e2, hn, hk⟩
        · simp at e2
          exact ⟨⟨none, 0⟩, ⟨Nat.le_refl _, fun _ => rfl, fun a ha => (by cases ha)⟩, e2⟩
        · simp at e2
          refine ⟨⟨some p, cp⟩, ⟨by simpa [cutR_len] using hn, fun ha => (by cases ha), fun b hb j hj => ?_⟩, by simpa [spotVal, cutR_len] using e2⟩
          obtain rfl := Option.some.inj hb
          rw [cutR_len] at hj
          obtain ⟨u, k1, k2⟩ := hk j hj
          rw [(hm.kn _ _ k1).1, isU8_cell (hvc (∀ j, j < k * sz → isU8 (f (i + j)) = true) (by simp) j hj) k2, cutR_at _ _ _ _ hj]
      · cases h
    · rename_i i off k cp
      split at h
      · rename_i blk hb
        split at h
        · rename_i l hl
          split at h
          · rename_i r hr
            split at h
            · rename_i hkc
              simp at h
              obtain ⟨rfl, rfl⟩ := h
              obtain ⟨b, hb1, e2⟩ := LIs.single (e : LIs β _ [v])
              simp at e2
              obtain ⟨b', vs, fz, hb2, hvs, hheap, _⟩ := hm.mem' hb hb1
              have : b' = b := by rw [hb1] at hb2; exact (Option.some.inj hb2).symm
              subst this
              obtain ⟨h1, h2⟩ := cut_is hvs hl
              have h3 := bytesL_is (flat_is h1) hr
              have hlen : r.length = k * n := by
                have := congrArg List.length h3
                simp at this
                omega
              refine ⟨⟨some ⟨b', off, none⟩, cp⟩, ⟨by simpa [cutR_len] using hkc, fun ha => (by cases ha), fun b0 hb0 j hj => ?_⟩, by simpa [spotVal, cutR_len] using e2⟩
              obtain rfl := Option.some.inj hb0
              rw [cutR_len] at hj
              rw [add_none, cell_of_row W b' (off + j) _ _ fz hheap, cutR_at _ _ _ _ hj]
              have h4 : ((vs.drop off).take (k * n))[j]? = some (Value.int .u8 ((pickN 0 r j).toNat : Int)) := by
                rw [h3, List.getElem?_map, pickN_at 0 r j (by omega)]
                rfl
              rw [List.getElem?_take, if_pos hj, List.getElem?_drop] at h4
              simpa using h4
            · cases h
          · cases h
        · cases h
      · cases h
    · simp at h
      obtain ⟨rfl, rfl⟩ := h
      obtain ⟨e1, _⟩ := LIs.single (e : LIs β _ [v])
      simp at e1
      exact ⟨⟨none, 0⟩, ⟨Nat.le_refl _, fun _ => rfl, fun a ha => (by cases ha)⟩, e1⟩
    · cases h
def FreshRows {n : Nat} (W : World) (b : Nat) (l : List (R8 n)) (v : Value) : Prop :=
  (l = [] ∧ v = .slice none 0 0) ∨ ∃ a c, v = .slice (some a) l.length c ∧ l.length ≤ c ∧ ∀ i, i < l.length * n → W.cell? (a.add i) = some (.int .u8 (rsB l i).toNat) ∧ b ≤ (a.add i).block
def rzParse (n : Nat) : TV A → Option (Rz n × List Prop)
  | .val false [.kn f i k sz] => if sz = n then some (⟨cutR n (fun j => u8of (f (i + j))) k⟩, [∀ j, j < k * n → isU8 (f (i + j)) = true]) else none
  | .val false [.v (.slice none 0 0)] => some (⟨[]⟩, [])
  | _ => none
instance (n : Nat) : Ret A (Rz n) where
  tv x := .val false [.kn (rsAt x.l) 0 x.l.length n]
  good W b x v := FreshRows W b x.l v
  is := by
    intro W b x v h
    rcases h with ⟨h1, rfl⟩ | ⟨a, c, rfl, h1, h2⟩
    · exact ⟨fun _ _ => False, fun _ _ h => h.elim, fun β => LIs.of_single (.inl ⟨by rw [h1]; rfl, rfl⟩)⟩
    · refine ⟨fun a' u => ∃ i, i < x.l.length * n ∧ a' = a.add i ∧ u = .int .u8 (rsB x.l i).toNat, ?_, fun β => LIs.of_single (.inr ⟨a, c, rfl, h1, fun j hj => ⟨_, .inr ⟨j, hj, rfl, rfl⟩, ?_⟩⟩)⟩
      · rintro a' u ⟨i, hi, rfl, rfl⟩
        exact h2 i hi
      · rw [Nat.zero_add]; rfl
  parse m t := rzParse n (asKn t)
  ok := by
    intro c W0 W β m t0 x vc v h hvc hm e
    replace e := asKn_is e
    revert h e
    generalize asKn t0 = t
    intro h e
    unfold rzParse at h
    split at h
    · rename_i f i k sz
      split at h
      · rename_i hsz
        subst hsz
        simp at h
        obtain ⟨rfl, rfl⟩ := h
        have e1 : knownIs β f i k sz [v] := LIs.single (e : LIs β _ [v])
        rcases e1 with ⟨rfl, e2⟩ | ⟨p, cp, e2, hn, hk⟩
        · simp at e2
          exact .inl ⟨rfl, e2⟩
        · simp at e2
          refine .inr ⟨p, cp, by simpa [cutR_len] using e2, by simpa [cutR_len] using hn, fun j hj => ?_⟩
          rw [cutR_len] at hj
          obtain ⟨u, k1, k2⟩ := hk j hj
          obtain ⟨k3, k4, _⟩ := hm.kn _ _ k1
          exact ⟨by rw [k3, isU8_cell (hvc (∀ j, j < k * sz → isU8 (f (i + j)) = true) (by simp) j hj) k2, cutR_at _ _ _ _ hj], k4.resolve_right id⟩
      · cases h
    · simp at h
      obtain ⟨rfl, rfl⟩ := h
      obtain ⟨e1, _⟩ := LIs.single (e : LIs β _ [v])
      simp at e1
      exact .inl ⟨rfl, e1⟩
    · cases h
theorem reads_rows {n : Nat} {W : World} {l : List (R8 n)} {g : Spot} (h : HasRows W l g) {i m : Nat} (hi : i + m ≤ l.length * n) : Reads W.cell? g.a (rsAt l) i m := by
  intro b hb j hj
  exact ⟨_, h.2.2 b hb (i + j) (by omega), rfl⟩
/-- A slice's rows, not too many. -/
structure Rt (n : Nat) where
  l : List (R8 n)
instance (n : Nat) : Arg A (Rt n) where
  G := Spot
  good W g x := HasRows W x.l g ∧ x.l.length < 1048576
  tv g x := .val false [.e g.a (rsAt x.l) 0 x.l.length g.c]
  val g x := spotVal x.l.length g
  is β h := Arg.is (A := A) (T := Rs n) (x := ⟨_⟩) β h.1
  parse old m t := match rsParse n old m (asKn t) with | some (b, vc) => some (⟨b.l⟩, (b.l.length < 1048576) :: vc) | none => none
  ok := by
    intro c X W0 W β m t x vc v h hvc hm e
    split at h
    · rename_i b vc' hb
      simp at h
      obtain ⟨rfl, rfl⟩ := h
      obtain ⟨g, h1, h2⟩ := Arg.ok (A := A) (T := Rs n) (c := c) (m := m) (t := t) hb (fun p hp => hvc p (by simp [hp])) hm e
      exact ⟨g, ⟨h1, hvc _ (by simp)⟩, h2⟩
    · cases h
/-- A struct with nothing but a pointer to such data. -/
structure Hs (T : Type) where
  x : T
/-- Such a struct whose pointer is to new memory. -/
structure Hz (T : Type) where
  x : T
/-- So many bytes, from i on. -/
def extR (F : Nat → UInt8) (i : Nat) : Nat → List UInt8
  | 0 => []
  | n + 1 => F i :: extR F (i + 1) n
def elR (F : Nat → UInt8) (i : Nat) : Nat → UInt8 := pickN 0 (extR F i 32)
theorem extR_at (F : Nat → UInt8) : ∀ (n i j : Nat), j < n → pickN 0 (extR F i n) j = F (i + j)
  | n + 1, i, 0, _ => rfl
  | n + 1, i, j + 1, h => by
    show pickN 0 (extR F (i + 1) n) j = _
    rw [extR_at F n (i + 1) j (by omega)]
    congr 1
    omega
/-- Row k of a slice of rows of 32 bytes. -/
def elL (l : List (R8 32)) (k : Nat) : Nat → UInt8 := elR (rsB l) (k * 32)
theorem elL_at (l : List (R8 32)) (k j : Nat) (h : j < 32) : elL l k j = (l.getD k (noR 32)).f j := by
  unfold elL elR
  rw [extR_at _ _ _ _ h, Nat.mul_comm, rsB_at _ _ _ h]
def isPtr : SV A → Bool
  | .p .. => true
  | .q .. => true
  | .ka .. => true
  | _ => false
theorem ptr_one {β : Adr} {s : SV A} {vs : List Value} (hs : isPtr s = true) (h : LIs β [s] vs) : ∃ u, vs = [u] := by
  obtain ⟨x, y, h1, h2, rfl⟩ := h
  obtain rfl : y = [] := h2
  cases s with
  | p i off => obtain ⟨b, hb, rfl⟩ := h1; exact ⟨_, rfl⟩
  | q a f i => obtain ⟨b, hb, rfl⟩ := h1; exact ⟨_, rfl⟩
  | ka f i k => obtain ⟨b, rfl, hb⟩ := h1; exact ⟨_, rfl⟩
  | _ => simp [isPtr] at hs
def hsParse {T : Type} [Rep A T] [Celled T] (old : Addr → Option Value) (m : Mem A) : TV A → Option (Hs T × List Prop)
  | .val true [s] => match isPtr s with
    | true => (match ptrParse (T := T) old m (.val false [s]) with | some (x, vc) => some (⟨x.x⟩, vc) | none => none)
    | false => none
  | _ => none
instance {T : Type} [Rep A T] [Celled T] : Arg A (Hs T) where
  G := Addr
  good W a x := ∀ j, j < Celled.n T → ∃ v, W.cell? (a.add j) = some v ∧ Atom.cells (Celled.cellA x.x j) = [v]
  tv a x := .val true [.q (some a) (Celled.cellA x.x) 0]
  val a x := .agg #[.pointer (some a)]
  is := by
    intro W a x β _
    exact ⟨[.pointer (some a)], LIs.of_single ⟨a, rfl, by simp [Addr.add]⟩, rfl⟩
  parse old m t := hsParse old m t
  ok := by
    intro c X W0 W β m t x vc v h hvc hm e
    unfold hsParse at h
    split at h
    · rename_i s
      split at h
      · rename_i hs
        split at h
        · rename_i y vc' hy
          simp at h
          obtain ⟨rfl, rfl⟩ := h
          obtain ⟨vs, h1, rfl⟩ := e
          obtain ⟨u, rfl⟩ := ptr_one hs h1
          obtain ⟨g, k1, k2⟩ := Arg.ok (A := A) (T := Ptr T) (x := y) (t := .val false [s]) hy hvc hm h1
          have k2 : u = .pointer (some g) := k2
          exact ⟨g, k1, by rw [k2]⟩
        · cases h
      · cases h
    · cases h
instance {T : Type} [Rep A T] [Celled T] : Ret A (Hz T) where
  tv x := .val true [.ka (Celled.cellA x.x) 0 (Celled.n T)]
  good W n x v := ∃ a, v = .agg #[.pointer (some a)] ∧ ∀ j, j < Celled.n T → ∃ u, W.cell? (a.add j) = some u ∧ n ≤ (a.add j).block ∧ Atom.cells (Celled.cellA x.x j) = [u]
  is := by
    rintro W n x v ⟨a, rfl, h⟩
    refine ⟨fun a' u => ∃ j, j < Celled.n T ∧ a' = a.add j ∧ W.cell? (a.add j) = some u ∧ n ≤ (a.add j).block, ?_, fun β => ⟨[.pointer (some a)], LIs.of_single ⟨a, rfl, fun j hj => ?_⟩, rfl⟩⟩
    · rintro a' u ⟨j, hj, rfl, h1, h2⟩
      exact ⟨h1, h2⟩
    · obtain ⟨u, h1, h2, h3⟩ := h j hj
      exact ⟨u, .inr ⟨j, hj, rfl, h1, h2⟩, by rw [Nat.zero_add]; exact h3⟩
  parse m t := match t with
    | .val true [.ka f i k] => (match Nat.ble (Celled.n T) k with | true => some (⟨Celled.of f i⟩, [Celled.must T f i]) | false => none)
    | _ => none
  ok := by
    intro c W0 W β m t x vc v h hvc hm e
    split at h
    · rename_i f i k
      split at h
      · rename_i hk
        simp at h
        obtain ⟨rfl, rfl⟩ := h
        obtain ⟨vs, h1, rfl⟩ := e
        obtain ⟨u, rfl⟩ := ptr_one rfl h1
        obtain ⟨ad, e2, hkn⟩ := LIs.single (h1 : LIs β _ [u])
        simp at e2
        have h2 : Celled.must T f i := hvc _ (by simp)
        have hle := Nat.le_of_ble_eq_true hk
        refine ⟨ad, by rw [e2], fun j hj => ?_⟩
        obtain ⟨u, k1, k2⟩ := hkn j (Nat.lt_of_lt_of_le hj hle)
        obtain ⟨k3, k4, _⟩ := hm.kn _ _ k1
        exact ⟨u, k3, k4.resolve_right id, by rw [← Celled.of_ok h2 j hj]; exact k2⟩
      · cases h
    · cases h
end Go.Sh

/- Branches, by the reference: where they come to. -/
namespace Go.Sh
/-- A bit of a number. -/
def bitQ (x : UInt64) (i : Nat) : Bool :=
  (((UInt64.ofNat (((BitVec.ofInt IntKind.u64.bits ((UInt64.ofNat (x.toNat / 2 ^ min i IntKind.u64.bits)).toNat : Int) &&& BitVec.ofInt IntKind.u64.bits 1).toNat : Int) % 18446744073709551616).toNat).toNat : Int) == 1)
/-- A number without its lowest bits is nought. -/
def offQ (x : UInt64) (i : Nat) : Bool := (((UInt64.ofNat (x.toNat / 2 ^ min i IntKind.u64.bits)).toNat : Int) == 0)
section
variable (Pr : R8 32 → R8 32 → R8 32)
def vStep (b : Bool) (e v : Nat → UInt8) : Nat → UInt8 := match b with | true => (Pr ⟨e⟩ ⟨v⟩).f | false => (Pr ⟨v⟩ ⟨e⟩).f
def sideB (x : UInt64) (i : Nat) : Bool := match decide ((i : Int) < 64) with | true => bitQ x i | false => false
def foldV (l : List (R8 32)) (x : UInt64) (f : Nat → UInt8) : Nat → (Nat → UInt8)
  | 0 => f
  | i + 1 => vStep Pr (sideB x i) (elL l i) (foldV l x f i)
end
end Go.Sh
namespace Go.Proofs.YtaloefkkllebeaaDoor
open Go Go.Sh
noncomputable def tblMk (Pr : R8 32 → R8 32 → R8 32) : List (Row A) := [rowOf A 34 (fun x : Ptr Mk × R8 32 × R8 32 × Unit => Pr x.2.1 x.2.2.1)]
def hsT (a : Addr) : SV A := .q (some a) (fun j => .u32 (tabA j)) 0
def rsE (g : Spot) (l : List (R8 32)) : SV A := .e g.a (rsAt l) 0 l.length g.c
def vfS (a : Addr) (f r v : Nat → UInt8) (g : Spot) (l : List (R8 32)) (ix : UInt64) (i : Nat) : St A :=
  ⟨slots 0 60 [(0, .val true [hsT a]), (1, .val true [.a (.w8 32 f)]), (2, .val false [rsE g l]), (3, .val false [.a (.u64 ix)]), (4, .val true [.a (.w8 32 r)]), (5, .val false [.p 0 0]), (6, .val false [.p 1 0]), (9, .val false [.p 2 0]), (10, .val false [.v (.bool false)]), (11, .val false [.p 3 0]), (12, .val false [.n .i64 (i : Int)])],
    [some ⟨[hsT a], 55, false⟩, some ⟨[.a (.w8 32 f)], 25, false⟩, some ⟨[.a (.w8 32 r)], 25, false⟩, some ⟨[.a (.w8 32 v)], 25, false⟩], 0, [], []⟩
def flS (a : Addr) (f v : Nat → UInt8) (g : Spot) (l : List (R8 32)) (ix : UInt64) (i : Nat) : St A :=
  ⟨slots 0 42 [(0, .val true [hsT a]), (1, .val true [.a (.w8 32 f)]), (2, .val false [rsE g l]), (3, .val false [.a (.u64 ix)]), (4, .val false [.p 0 0]), (5, .val false [.p 1 0]), (8, .val false [.p 2 0]), (9, .val false [.n .i64 (i : Int)])],
    [some ⟨[hsT a], 55, false⟩, some ⟨[.a (.w8 32 v)], 25, false⟩, some ⟨zer8 32, 25, false⟩], 0, [], []⟩
section
variable {Pr : R8 32 → R8 32 → R8 32} (ht : TblOK Tryd.prog (tblMk Pr)) {W : World} (a : Addr) (hT : HasTab W a) (f r : Nat → UInt8) (g : Spot) {l : List (R8 32)} (hg : HasRows W l g) (hl : l.length < 1048576) (ix : UInt64) {c : Cfg A} (e1 : c.P = Tryd.prog) (e2 : c.gl = (fun _ => none)) (e3 : c.old = W.cell?) (e4 : c.ys = [])
include ht hT hg hl e1 e2 e3 e4
theorem vfS_one (v : Nat → UInt8) (i : Nat) (hi : i < l.length) : Round c (loopNo Tryd.f61 3) (vfS a f r v g l ix i) .normal (vfS a f r (vStep Pr (sideB ix i) (elL l i) v) g l ix (i + 1)) := by
  have w : WrapI ((i : Int) + 1) := wI (by omega) (by omega)
  have rt : ReadT W.cell? a 0 72 := hT _ _ (by omega)
  have rd : Reads W.cell? g.a (rsAt (l := l)) (i * 32) 32 := reads_rows hg (by omega)
  have ix1 : IX (i : Int) l.length := ⟨by omega, by omega⟩
  have lt : decide ((i : Int) < (l.length : Int)) = true := decide_eq_true (by omega)
  cases h64 : decide ((i : Int) < 64) with
  | true =>
    cases hb : bitQ ix i with
    | true =>
      have e : vStep Pr (sideB ix i) (elL l i) v = (Pr ⟨elL l i⟩ ⟨v⟩).f := by unfold sideB; rw [h64]; simp only [hb, vStep]
      rw [e]
      exact Round.of0 ht (saysY []) 6 [WrapI ((i : Int) + 1), ReadT W.cell? a 0 72, TabsAre, Reads W.cell? g.a (rsAt l) (i * 32) 32, IX (i : Int) l.length, bitQ ix i = true, (0 : Int) ≤ (i : Int), decide ((i : Int) < 64) = true, decide ((i : Int) < (l.length : Int)) = true] (by kernel_rfl)
        ⟨w, rt, tabsAre, rd, ix1, hb, by omega, h64, lt, trivial⟩ (by kernel_rfl) (by kernel_rfl) e1 e2 e3 e4
    | false =>
      have e : vStep Pr (sideB ix i) (elL l i) v = (Pr ⟨v⟩ ⟨elL l i⟩).f := by unfold sideB; rw [h64]; simp only [hb, vStep]
      rw [e]
      exact Round.of0 ht (saysY [(27, false)]) 6 [WrapI ((i : Int) + 1), ReadT W.cell? a 0 72, TabsAre, Reads W.cell? g.a (rsAt l) (i * 32) 32, IX (i : Int) l.length, bitQ ix i = false, (0 : Int) ≤ (i : Int), decide ((i : Int) < 64) = true, decide ((i : Int) < (l.length : Int)) = true] (by kernel_rfl)
        ⟨w, rt, tabsAre, rd, ix1, hb, by omega, h64, lt, trivial⟩ (by kernel_rfl) (by kernel_rfl) e1 e2 e3 e4
  | false =>
    have e : vStep Pr (sideB ix i) (elL l i) v = (Pr ⟨v⟩ ⟨elL l i⟩).f := by unfold sideB; rw [h64]; rfl
    rw [e]
    exact Round.of0 ht (saysY [(21, false)]) 6 [WrapI ((i : Int) + 1), ReadT W.cell? a 0 72, TabsAre, Reads W.cell? g.a (rsAt l) (i * 32) 32, IX (i : Int) l.length, decide ((i : Int) < 64) = false, decide ((i : Int) < (l.length : Int)) = true] (by kernel_rfl)
      ⟨w, rt, tabsAre, rd, ix1, h64, lt, trivial⟩ (by kernel_rfl) (by kernel_rfl) e1 e2 e3 e4
theorem flS_one (v : Nat → UInt8) (i : Nat) (hi : i < l.length) : Round c (loopNo Tryd.f60 2) (flS a f v g l ix i) .normal (flS a f (vStep Pr (sideB ix i) (elL l i) v) g l ix (i + 1)) := by
  have w : WrapI ((i : Int) + 1) := wI (by omega) (by omega)
  have rt : ReadT W.cell? a 0 72 := hT _ _ (by omega)
  have rd : Reads W.cell? g.a (rsAt (l := l)) (i * 32) 32 := reads_rows hg (by omega)
  have ix1 : IX (i : Int) l.length := ⟨by omega, by omega⟩
  have lt : decide ((i : Int) < (l.length : Int)) = true := decide_eq_true (by omega)
  cases h64 : decide ((i : Int) < 64) with
  | true =>
    cases hb : bitQ ix i with
    | true =>
      have e : vStep Pr (sideB ix i) (elL l i) v = (Pr ⟨elL l i⟩ ⟨v⟩).f := by unfold sideB; rw [h64]; simp only [hb, vStep]
      rw [e]
      exact Round.of0 ht (saysY []) 6 [WrapI ((i : Int) + 1), ReadT W.cell? a 0 72, TabsAre, Reads W.cell? g.a (rsAt l) (i * 32) 32, IX (i : Int) l.length, bitQ ix i = true, (0 : Int) ≤ (i : Int), decide ((i : Int) < 64) = true, decide ((i : Int) < (l.length : Int)) = true] (by kernel_rfl)
        ⟨w, rt, tabsAre, rd, ix1, hb, by omega, h64, lt, trivial⟩ (by kernel_rfl) (by kernel_rfl) e1 e2 e3 e4
    | false =>
      have e : vStep Pr (sideB ix i) (elL l i) v = (Pr ⟨v⟩ ⟨elL l i⟩).f := by unfold sideB; rw [h64]; simp only [hb, vStep]
      rw [e]
      exact Round.of0 ht (saysY [(23, false)]) 6 [WrapI ((i : Int) + 1), ReadT W.cell? a 0 72, TabsAre, Reads W.cell? g.a (rsAt l) (i * 32) 32, IX (i : Int) l.length, bitQ ix i = false, (0 : Int) ≤ (i : Int), decide ((i : Int) < 64) = true, decide ((i : Int) < (l.length : Int)) = true] (by kernel_rfl)
        ⟨w, rt, tabsAre, rd, ix1, hb, by omega, h64, lt, trivial⟩ (by kernel_rfl) (by kernel_rfl) e1 e2 e3 e4
  | false =>
    have e : vStep Pr (sideB ix i) (elL l i) v = (Pr ⟨v⟩ ⟨elL l i⟩).f := by unfold sideB; rw [h64]; rfl
    rw [e]
    exact Round.of0 ht (saysY [(17, false)]) 6 [WrapI ((i : Int) + 1), ReadT W.cell? a 0 72, TabsAre, Reads W.cell? g.a (rsAt l) (i * 32) 32, IX (i : Int) l.length, decide ((i : Int) < 64) = false, decide ((i : Int) < (l.length : Int)) = true] (by kernel_rfl)
      ⟨w, rt, tabsAre, rd, ix1, h64, lt, trivial⟩ (by kernel_rfl) (by kernel_rfl) e1 e2 e3 e4
theorem vfS_end (v : Nat → UInt8) : Round c (loopNo Tryd.f61 3) (vfS a f r v g l ix l.length) (.exit 0) (vfS a f r v g l ix l.length) :=
  Round.of0 ht (saysY [(17, false)]) 6 [decide ((l.length : Int) < (l.length : Int)) = false] (by kernel_rfl) ⟨decide_eq_false (by omega), trivial⟩ (by kernel_rfl) (by kernel_rfl) e1 e2 e3 e4
theorem flS_end (v : Nat → UInt8) : Round c (loopNo Tryd.f60 2) (flS a f v g l ix l.length) (.exit 0) (flS a f v g l ix l.length) :=
  Round.of0 ht (saysY [(13, false)]) 6 [decide ((l.length : Int) < (l.length : Int)) = false] (by kernel_rfl) ⟨decide_eq_false (by omega), trivial⟩ (by kernel_rfl) (by kernel_rfl) e1 e2 e3 e4
end
end Go.Proofs.YtaloefkkllebeaaDoor

/- Branches: the reference's contracts; a branch's steps. -/
namespace Go.Sh
def verQ (Pr : R8 32 → R8 32 → R8 32) (f r : Nat → UInt8) (l : List (R8 32)) (ix : UInt64) : Bool :=
  match eqB (foldV Pr l ix f l.length) r 0 32 with
  | false => false
  | true => match decide ((l.length : Int) ≥ 64) with | true => true | false => offQ ix l.length
def extI (mx : Bool) (a b : Int) : Int := if (if mx then b > a else b < a) then b else a
def mmI (n : Int) : Int := extI false (extI true n 0) 64
theorem mmI_eq (n : Int) : mmI n = min (max n 0) 64 := by
  unfold mmI extI
  simp only [Bool.false_eq_true, if_true, if_false]
  split <;> split <;> omega
/-- A number of 64 bits. -/
def cvU (n : Int) : UInt64 := UInt64.ofNat (n % 18446744073709551616).toNat
def shW (x : UInt64) (n : Int) : UInt64 := UInt64.ofNat (x.toNat / 2 ^ min ((cvU n).toNat : Int).toNat IntKind.u64.bits)
def bitW (x : UInt64) (i : Nat) : Bool :=
  (((UInt64.ofNat (((BitVec.ofInt IntKind.u64.bits ((shW x (i : Int)).toNat : Int) &&& BitVec.ofInt IntKind.u64.bits 1).toNat : Int) % 18446744073709551616).toNat).toNat : Int) == 1)
theorem cvU_nat {i : Nat} (h : i < 18446744073709551616) : ((cvU (i : Int)).toNat : Int).toNat = i := by
  unfold cvU
  have : ((i : Int) % 18446744073709551616).toNat = i := by omega
  rw [this, UInt64.toNat_ofNat_of_lt' (show i < 18446744073709551616 from h)]
  rfl
theorem bitW_eq (x : UInt64) {i : Nat} (h : i < 18446744073709551616) : bitW x i = bitQ x i := by
  unfold bitW bitQ shW
  rw [cvU_nat h]
end Go.Sh
namespace Go.Proofs.YtaloefkkllebeaaDoor
open Go Go.Sh
section
variable {Pr : R8 32 → R8 32 → R8 32} (ht : TblOK Tryd.prog (tblMk Pr))
include ht
theorem fold_of : Computes A Tryd.prog 60 (fun x : Hs Mk × R8 32 × Rt 32 × UInt64 × Unit => (⟨foldV Pr x.2.2.1.l x.2.2.2.1 x.2.1.f x.2.2.1.l.length⟩ : R8 32)) := by
  refine computes_of_runW ht (ITblOK.nil _) Tryd.func60 (by kernel_rfl) (by kernel_rfl) 6 ?_
  rintro ⟨a, _, g, _⟩ ⟨⟨m⟩, ⟨f⟩, ⟨l⟩, ix, ⟨⟩⟩ W ⟨ha, _, ⟨hg, hn⟩, _⟩
  have hg : HasRows W l g := hg
  have hn : l.length < 1048576 := hn
  have hT : HasTab W a := by
    intro i n hin b hb j hj
    obtain rfl := Option.some.inj hb
    exact ha (i + j) (show i + j < 72 by omega)
  have hs : SoundFor Tryd.prog W.cell? [] (.loop (loopNo Tryd.f60 2)) (flS a f f g l ix 0) (.exit 0) (flS a f (foldV Pr l ix f l.length) g l ix l.length) := fun c q1 q2 q3 q4 =>
    loopAt (c := c) (inv := fun i => flS a f (foldV Pr l ix f i) g l ix i) (N := l.length) (by simp) (fun i hi => flS_one ht a hT f g hg hn ix q1 q2 q3 q4 _ i hi) (flS_end ht a hT f g hg hn ix q1 q2 q3 q4 _)
  revert hs
  show SoundFor _ _ _ _ _ _ (flS a f (foldV Pr l ix f l.length) g l ix l.length) → _
  generalize foldV Pr l ix f l.length = w
  intro hs
  refine ⟨fun _ _ => .keep, lps [(2, flS a f f g l ix 0, .exit 0, flS a f w g l ix l.length)], ⟨w⟩, [ToldIs (flS a f f g l ix 0)], by kernel_rfl, ⟨toldIs _, trivial⟩, rfl, fun body hb => ?_⟩
  obtain rfl := Option.some.inj hb
  exact LoopsFor.cons (by kernel_rfl) hs LoopsFor.nil
theorem refVerify_of : Computes A Tryd.prog 61 (fun x : Hs Mk × R8 32 × Rt 32 × UInt64 × R8 32 × Unit => verQ Pr x.2.1.f x.2.2.2.2.1.f x.2.2.1.l x.2.2.2.1) := by
  refine computes_of_runW ht (ITblOK.nil _) Tryd.func61 (by kernel_rfl) (by kernel_rfl) 6 ?_
  rintro ⟨a, _, g, _⟩ ⟨⟨m⟩, ⟨f⟩, ⟨l⟩, ix, ⟨r⟩, ⟨⟩⟩ W ⟨ha, _, ⟨hg, hn⟩, _⟩
  have hg : HasRows W l g := hg
  have hn : l.length < 1048576 := hn
  have hT : HasTab W a := by
    intro i n hin b hb j hj
    obtain rfl := Option.some.inj hb
    exact ha (i + j) (show i + j < 72 by omega)
  have hs : SoundFor Tryd.prog W.cell? [] (.loop (loopNo Tryd.f61 3)) (vfS a f r f g l ix 0) (.exit 0) (vfS a f r (foldV Pr l ix f l.length) g l ix l.length) := fun c q1 q2 q3 q4 =>
    loopAt (c := c) (inv := fun i => vfS a f r (foldV Pr l ix f i) g l ix i) (N := l.length) (by simp) (fun i hi => vfS_one ht a hT f r g hg hn ix q1 q2 q3 q4 _ i hi) (vfS_end ht a hT f r g hg hn ix q1 q2 q3 q4 _)
  show ∃ orc lp y vc, _ ∧ _ ∧ y = verQ Pr f r l ix ∧ _
  unfold verQ
  revert hs
  generalize foldV Pr l ix f l.length = w
  intro hs
  have hb : ∀ body, Tryd.f61.body = some body → LoopsFor Tryd.prog W.cell? [] (lps [(3, vfS a f r f g l ix 0, .exit 0, vfS a f r w g l ix l.length)]) body := fun body hb => by
    obtain rfl := Option.some.inj hb
    exact LoopsFor.cons (by kernel_rfl) hs LoopsFor.nil
  cases he : eqB w r 0 32 with
  | false => exact ⟨says [(47, false)], lps [(3, vfS a f r f g l ix 0, .exit 0, vfS a f r w g l ix l.length)], false, [eqB w r 0 32 = false, ToldIs (vfS a f r f g l ix 0)], by kernel_rfl, ⟨he, toldIs _, trivial⟩, rfl, hb⟩
  | true =>
    cases hl : decide ((l.length : Int) ≥ 64) with
    | true => exact ⟨says [(47, true), (51, true)], lps [(3, vfS a f r f g l ix 0, .exit 0, vfS a f r w g l ix l.length)], true, [decide ((l.length : Int) ≥ 64) = true, eqB w r 0 32 = true, ToldIs (vfS a f r f g l ix 0)], by kernel_rfl, ⟨hl, he, toldIs _, trivial⟩, rfl, hb⟩
    | false => exact ⟨says [(47, true), (51, false)], lps [(3, vfS a f r f g l ix 0, .exit 0, vfS a f r w g l ix l.length)], offQ ix l.length, [(0 : Int) ≤ (l.length : Int), decide ((l.length : Int) ≥ 64) = false, eqB w r 0 32 = true, ToldIs (vfS a f r f g l ix 0)], by kernel_rfl, ⟨by omega, hl, he, toldIs _, trivial⟩, rfl, hb⟩
end
/-! ### Steps, walked by Verify -/
noncomputable def tblSp' (Pr : R8 32 → R8 32 → R8 32) : List (Row A) := [rowOf A 33 (fun x : GA (R8 32 × R8 32 × Unit) => Pr x.x.1 x.x.2.1)]
noncomputable def stepsR : Row A := rowIn Tryd.prog [] [] (fun _ _ => .keep) 4 103 Tryd.f103
theorem stepsR_ok : RowOK Tryd.prog stepsR := rowIn_ok (TblOK.nil _) (ITblOK.nil _) _ 4 Tryd.func103 (by kernel_rfl) (by kernel_rfl)
section
variable (f r : Nat → UInt8) (g : Spot) (l : List (R8 32)) (ix : UInt64)
def memV (v : Nat → UInt8) : Mem A :=
  [some ⟨[.a (.w8 32 f)], 25, false⟩, some ⟨[rsE g l], 59, false⟩, some ⟨[.a (.w8 32 r)], 25, false⟩, some ⟨[.a (.w8 32 v)], 25, false⟩, some ⟨[.a (.u64 ix)], 40, false⟩, some ⟨[.n .i64 (l.length : Int)], 3, false⟩, none]
/-- The slots of the test ahead. -/
def midV (sh : Bool) : List (Nat × TV A) :=
  match sh with
  | false => [(16, .val false [.v (.bool false)]), (17, .val false [.v (.bool false)])]
  | true => [(16, .val false [.v (.bool true)]), (17, .val false [.v (.bool true)]), (18, .val false [.a (.u64 ix)]), (19, .val false [rsE g l]), (20, .val false [.n .i64 (l.length : Int)]), (21, .val false [.a (.u64 (cvU (l.length : Int)))]), (22, .val false [.a (.u64 (shW ix (l.length : Int)))]), (23, .val false [.v (.bool false)])]
noncomputable def ysV (sh : Bool) : Ys A :=
  ⟨6, [30, 31], rangeA Tryd.f59 5, rangeNo Tryd.f59 5,
    slotsU 0 62 ([(0, .val true [.a (.w8 32 f)]), (1, .val false [rsE g l]), (2, .val false [.a (.u64 ix)]), (3, .val true [.a (.w8 32 r)]), (4, .val false [.p 0 0]), (5, .val false [.p 1 0]), (7, .val false [.p 2 0]), (8, .val false [.v (.bool false)]), (9, .val false [.p 3 0]), (14, .val false [rsE g l]), (15, .val false [.n .i64 (l.length : Int)])] ++ (midV g l ix sh ++
      [(24, .val false [.v (.bool false)]), (25, .val true [.a (.w8 32 f)]), (26, .val false [.a (.u64 ix)]), (27, .val false [rsE g l]), (28, .val false [.n .i64 (l.length : Int)]), (29, .val false [.f 124 [(5, 0), (4, 0)]])]))⟩
def inV (v : Nat → UInt8) (i : Nat) : St A :=
  ⟨slots 0 22 [(0, .val false [.y 6]), (1, .val false [.p 5 0]), (2, .val false [.p 4 0]), (7, .val false [.n .i64 (mmI (l.length : Int))]), (8, .val false [.n .i64 (i : Int)])], memV f r g l ix v, 0, [], [none]⟩
noncomputable def yfV (sh : Bool) (Pr : R8 32 → R8 32 → R8 32) (old : Addr → Option Value) (b : Bool) : YF A := pushY (exec (cfg Tryd.prog (tblSp' Pr) (says [(32, b)]) old) 4 (ysV f r g l ix sh).assign) (exec (cfg Tryd.prog (tblSp' Pr) (says [(32, b)]) old) 4 (ysV f r g l ix sh).body) (ysV f r g l ix sh) noYield
end
end Go.Proofs.YtaloefkkllebeaaDoor

/- Branches: Verify. -/
namespace Go.Sh
def moreV (l : List (R8 32)) : Nat := (extI false (l.length : Int) 64).toNat
theorem moreV_eq (l : List (R8 32)) : moreV l = min l.length 64 := by
  unfold moreV extI
  simp only [Bool.false_eq_true, if_false]
  split <;> omega
/-- A row further on. -/
def elM (l : List (R8 32)) (i : Nat) : Nat → UInt8 := elR (rsB l) (i * 32 + moreV l * 32)
theorem elM_eq (l : List (R8 32)) (i : Nat) : elM l i = elL l (moreV l + i) := by
  unfold elM elL
  rw [Nat.add_mul, Nat.add_comm]
/-- Is a number beyond a branch? -/
def beyQ (l : List (R8 32)) (ix : UInt64) : Bool := match decide ((l.length : Int) < 64) with | true => (((shW ix (l.length : Int)).toNat : Int) != 0) | false => false
def merQ (Pr : R8 32 → R8 32 → R8 32) (f r : Nat → UInt8) (l : List (R8 32)) (ix : UInt64) : Bool :=
  match beyQ l ix with
  | true => false
  | false => eqB (foldV Pr l ix f l.length) r 0 32
theorem merQ_eq (Pr : R8 32 → R8 32 → R8 32) (f r : Nat → UInt8) (l : List (R8 32)) (ix : UInt64) (hl : l.length < 1048576) : merQ Pr f r l ix = verQ Pr f r l ix := by
  unfold merQ verQ beyQ
  have hs : shW ix (l.length : Int) = UInt64.ofNat (ix.toNat / 2 ^ min l.length IntKind.u64.bits) := by unfold shW; rw [cvU_nat (by omega)]
  by_cases h : (l.length : Int) < 64
  · have h' : ¬ (l.length : Int) ≥ 64 := by omega
    rw [decide_eq_true h, decide_eq_false h', hs]
    unfold offQ
    generalize (UInt64.ofNat (ix.toNat / 2 ^ min l.length IntKind.u64.bits)).toNat = n
    cases hn : ((n : Int) == 0) <;> simp [bne, hn] <;> cases eqB (foldV Pr l ix f l.length) r 0 32 <;> rfl
  · have h' : (l.length : Int) ≥ 64 := by omega
    rw [decide_eq_false h, decide_eq_true h']
    cases eqB (foldV Pr l ix f l.length) r 0 32 <;> rfl
theorem sideB_hi (ix : UInt64) (i : Nat) (h : 64 ≤ i) : sideB ix i = false := by
  unfold sideB
  rw [decide_eq_false (by omega)]
theorem sideB_lo (ix : UInt64) (i : Nat) (h : i < 64) : sideB ix i = bitW ix i := by
  unfold sideB
  rw [decide_eq_true (by omega), bitW_eq ix (by omega)]
end Go.Sh
namespace Go.Proofs.YtaloefkkllebeaaDoor
open Go Go.Sh
section
variable {Pr : R8 32 → R8 32 → R8 32} (ht : TblOK Tryd.prog (tblSp' Pr)) (f r : Nat → UInt8) (g : Spot) (l : List (R8 32)) (ix : UInt64)
include ht in
theorem yfV_ok (sh : Bool) (old : Addr → Option Value) (b : Bool) : YFOK Tryd.prog old [ysV f r g l ix sh] (yfV f r g l ix sh Pr old b) :=
  YFOK.push (cfgOK0 ht (ITblOK.nil _) (says [(32, b)]) old noLoop) 4 (ysV f r g l ix sh) (loopsOK_none _ _ _ _ _ _ _ _) (loopsOK_none _ _ _ _ _ _ _ _)
variable {W : World} (hr : RoundsIn W.cell?) (hg : HasRows W l g) (hl : l.length < 1048576)
section
variable (sh : Bool) {k : Cfg A} (e1 : k.P = Tryd.prog) (e2 : k.gl = (fun _ => none)) (e3 : k.old = W.cell?) (e4 : k.ys = [ysV f r g l ix sh])
include ht hr hg hl e1 e2 e3 e4
theorem inV_one (v : Nat → UInt8) (i : Nat) (hi : i < l.length) (h64 : i < 64) : Round k (loopNo Tryd.f124 1) (inV f r g l ix v i) .normal (inV f r g l ix (vStep Pr (sideB ix i) (elL l i) v) (i + 1)) := by
  have w : WrapI ((i : Int) + 1) := wI (by omega) (by omega)
  have rd : Reads W.cell? g.a (rsAt (l := l)) (i * 32) 32 := reads_rows hg (by omega)
  have ix1 : IX (i : Int) l.length := ⟨by omega, by omega⟩
  have lt : decide ((i : Int) < mmI (l.length : Int)) = true := decide_eq_true (by rw [mmI_eq]; omega)
  rw [sideB_lo ix i h64]
  cases hb : bitW ix i with
  | true =>
    cases sh with
    | true =>
      exact Round.of (TblOK.nil _) (ITblOK.nil _) (says [(9, true)]) noLoop (yfV_ok ht f r g l ix true W.cell? true) 6
        [WrapI ((i : Int) + 1), RoundsIn W.cell?, Reads W.cell? g.a (rsAt l) (i * 32) 32, IX (i : Int) l.length, bitW ix i = true, (0 : Int) ≤ ((cvU (i : Int)).toNat : Int), decide ((i : Int) < mmI (l.length : Int)) = true]
        loopsFor_none (by kernel_rfl) ⟨w, hr, rd, ix1, hb, by omega, lt, trivial⟩ (by kernel_rfl) (by kernel_rfl) e1 e2 e3 e4
    | false =>
      exact Round.of (TblOK.nil _) (ITblOK.nil _) (says [(9, true)]) noLoop (yfV_ok ht f r g l ix false W.cell? true) 6
        [WrapI ((i : Int) + 1), RoundsIn W.cell?, Reads W.cell? g.a (rsAt l) (i * 32) 32, IX (i : Int) l.length, bitW ix i = true, (0 : Int) ≤ ((cvU (i : Int)).toNat : Int), decide ((i : Int) < mmI (l.length : Int)) = true]
        loopsFor_none (by kernel_rfl) ⟨w, hr, rd, ix1, hb, by omega, lt, trivial⟩ (by kernel_rfl) (by kernel_rfl) e1 e2 e3 e4
  | false =>
    cases sh with
    | true =>
      exact Round.of (TblOK.nil _) (ITblOK.nil _) (says [(9, true)]) noLoop (yfV_ok ht f r g l ix true W.cell? false) 6
        [WrapI ((i : Int) + 1), RoundsIn W.cell?, Reads W.cell? g.a (rsAt l) (i * 32) 32, IX (i : Int) l.length, bitW ix i = false, (0 : Int) ≤ ((cvU (i : Int)).toNat : Int), decide ((i : Int) < mmI (l.length : Int)) = true]
        loopsFor_none (by kernel_rfl) ⟨w, hr, rd, ix1, hb, by omega, lt, trivial⟩ (by kernel_rfl) (by kernel_rfl) e1 e2 e3 e4
    | false =>
      exact Round.of (TblOK.nil _) (ITblOK.nil _) (says [(9, true)]) noLoop (yfV_ok ht f r g l ix false W.cell? false) 6
        [WrapI ((i : Int) + 1), RoundsIn W.cell?, Reads W.cell? g.a (rsAt l) (i * 32) 32, IX (i : Int) l.length, bitW ix i = false, (0 : Int) ≤ ((cvU (i : Int)).toNat : Int), decide ((i : Int) < mmI (l.length : Int)) = true]
        loopsFor_none (by kernel_rfl) ⟨w, hr, rd, ix1, hb, by omega, lt, trivial⟩ (by kernel_rfl) (by kernel_rfl) e1 e2 e3 e4
theorem inV_end (v : Nat → UInt8) : Round k (loopNo Tryd.f124 1) (inV f r g l ix v (moreV l)) (.exit 0) (inV f r g l ix v (moreV l)) := by
  have hm := moreV_eq l
  generalize moreV l = q at hm ⊢
  cases sh with
  | true =>
    exact Round.of (TblOK.nil _) (ITblOK.nil _) (says [(9, false)]) noLoop (yfV_ok ht f r g l ix true W.cell? false) 6 [decide ((q : Int) < mmI (l.length : Int)) = false]
      loopsFor_none (by kernel_rfl) ⟨decide_eq_false (by rw [mmI_eq]; omega), trivial⟩ (by kernel_rfl) (by kernel_rfl) e1 e2 e3 e4
  | false =>
    exact Round.of (TblOK.nil _) (ITblOK.nil _) (says [(9, false)]) noLoop (yfV_ok ht f r g l ix false W.cell? false) 6 [decide ((q : Int) < mmI (l.length : Int)) = false]
      loopsFor_none (by kernel_rfl) ⟨decide_eq_false (by rw [mmI_eq]; omega), trivial⟩ (by kernel_rfl) (by kernel_rfl) e1 e2 e3 e4
end
def moS (v : Nat → UInt8) (i : Nat) : St A :=
  ⟨slots 0 62 [(5, .val false [.p 1 0]), (7, .val false [.p 2 0]), (9, .val false [.p 3 0]), (49, .val false [.e g.a (rsAt l) (moreV l * 32) (l.length - moreV l) (g.c - moreV l)]), (50, .val false [.n .i64 ((l.length - moreV l : Nat) : Int)]), (51, .val false [.n .i64 (i : Int)])], memV f r g l ix v, 0, [], []⟩
section
variable {k : Cfg A} (e1 : k.P = Tryd.prog) (e2 : k.gl = (fun _ => none)) (e3 : k.old = W.cell?) (e4 : k.ys = [])
include ht hr hg hl e1 e2 e3 e4
theorem moS_one (v : Nat → UInt8) (i : Nat) (hi : i < l.length - moreV l) : Round k (loopNo Tryd.f59 11) (moS f r g l ix v i) .normal (moS f r g l ix ((Pr ⟨v⟩ ⟨elM l i⟩).f) (i + 1)) := by
  have w : WrapI ((i : Int) + 1) := wI (by omega) (by omega)
  have rd : Reads W.cell? g.a (rsAt (l := l)) (i * 32 + moreV l * 32) 32 := reads_rows hg (by omega)
  exact Round.of0 ht (says [(52, true)]) 6 [WrapI ((i : Int) + 1), RoundsIn W.cell?, Reads W.cell? g.a (rsAt l) (i * 32 + moreV l * 32) 32, IX (i : Int) (l.length - moreV l), decide ((i : Int) < ((l.length - moreV l : Nat) : Int)) = true] (by kernel_rfl)
    ⟨w, hr, rd, ⟨by omega, by omega⟩, decide_eq_true (by omega), trivial⟩ (by kernel_rfl) (by kernel_rfl) e1 e2 e3 e4
theorem moS_end (v : Nat → UInt8) : Round k (loopNo Tryd.f59 11) (moS f r g l ix v (l.length - moreV l)) (.exit 2) (moS f r g l ix v (l.length - moreV l)) :=
  Round.of0 ht (says [(52, false)]) 6 [decide (((l.length - moreV l : Nat) : Int) < ((l.length - moreV l : Nat) : Int)) = false] (by kernel_rfl) ⟨decide_eq_false (by omega), trivial⟩ (by kernel_rfl) (by kernel_rfl) e1 e2 e3 e4
end
end
end Go.Proofs.YtaloefkkllebeaaDoor

/- Branches: Verify's contract. -/
namespace Go.Sh
/-- The whole way, in two parts. -/
def restV (Pr : R8 32 → R8 32 → R8 32) (l : List (R8 32)) (v : Nat → UInt8) : Nat → (Nat → UInt8)
  | 0 => v
  | i + 1 => (Pr ⟨restV Pr l v i⟩ ⟨elM l i⟩).f
theorem restV_eq (Pr : R8 32 → R8 32 → R8 32) (l : List (R8 32)) (ix : UInt64) (f : Nat → UInt8) : ∀ i, i ≤ l.length - moreV l → restV Pr l (foldV Pr l ix f (moreV l)) i = foldV Pr l ix f (moreV l + i)
  | 0, _ => rfl
  | i + 1, h => by
    show (Pr ⟨restV Pr l _ i⟩ ⟨elM l i⟩).f = vStep Pr (sideB ix (moreV l + i)) (elL l (moreV l + i)) (foldV Pr l ix f (moreV l + i))
    rw [restV_eq Pr l ix f i (by omega), elM_eq, sideB_hi ix _ (by have := moreV_eq l; omega)]
    rfl
end Go.Sh
namespace Go.Proofs.YtaloefkkllebeaaDoor
open Go Go.Sh
noncomputable def itV (f r w : Nat → UInt8) (g : Spot) (l : List (R8 32)) (ix : UInt64) (n : Nat) : List (IRow A) := [iterW Tryd.prog [] [] (fun _ _ => .keep) (lps [(1, inV f r g l ix f 0, .exit 0, inV f r g l ix w n)]) 6 124 Tryd.f124]
theorem itV_ok (f r w : Nat → UInt8) (g : Spot) (l : List (R8 32)) (ix : UInt64) (n : Nat) : ITblOK Tryd.prog (itV f r w g l ix n) :=
  .cons (iterW_ok (TblOK.nil _) (ITblOK.nil _) _ _ 6 Tryd.func124 (by kernel_rfl) (by kernel_rfl)) (ITblOK.nil _)
theorem verify_of {Pr : R8 32 → R8 32 → R8 32} (ht : TblOK Tryd.prog (tblSp' Pr)) : Computes A Tryd.prog 59 (fun x : GA (R8 32 × Rt 32 × UInt64 × R8 32 × Unit) => merQ Pr x.x.1.f x.x.2.2.2.1.f x.x.2.1.l x.x.2.2.1) := by
  refine computes_of_runT Tryd.func59 (by kernel_rfl) (by kernel_rfl) 6 ?_
  rintro ⟨_, g, _⟩ ⟨⟨⟨f⟩, ⟨l⟩, ix, ⟨r⟩, ⟨⟩⟩⟩ W ⟨hr, _, ⟨hg, hn⟩, _⟩
  have hg : HasRows W l g := hg
  have hn : l.length < 1048576 := hn
  have ht' : TblOK Tryd.prog (stepsR :: tblSp' Pr) := .cons stepsR_ok ht
  have hs : ∀ sh, SoundFor Tryd.prog W.cell? [ysV f r g l ix sh] (.loop (loopNo Tryd.f124 1)) (inV f r g l ix f 0) (.exit 0) (inV f r g l ix (foldV Pr l ix f (moreV l)) (moreV l)) := fun sh c q1 q2 q3 q4 =>
    loopAt (c := c) (inv := fun i => inV f r g l ix (foldV Pr l ix f i) i) (N := moreV l) (by simp) (fun i hi => by have := moreV_eq l; exact inV_one ht f r g l ix hr hg hn sh q1 q2 q3 q4 _ i (by omega) (by omega)) (inV_end ht f r g l ix hr hg hn sh q1 q2 q3 q4 _)
  have h2 : SoundFor Tryd.prog W.cell? [] (.loop (loopNo Tryd.f59 11)) (moS f r g l ix (foldV Pr l ix f (moreV l)) 0) (.exit 2) (moS f r g l ix (foldV Pr l ix f l.length) (l.length - moreV l)) := by
    have e : foldV Pr l ix f l.length = restV Pr l (foldV Pr l ix f (moreV l)) (l.length - moreV l) := by
      rw [restV_eq Pr l ix f _ (Nat.le_refl _)]
      congr 1
      have := moreV_eq l
      omega
    rw [e]
    exact fun c q1 q2 q3 q4 => loopAt (c := c) (inv := fun i => moS f r g l ix (restV Pr l (foldV Pr l ix f (moreV l)) i) i) (N := l.length - moreV l) (by simp) (fun i hi => moS_one ht f r g l ix hr hg hn q1 q2 q3 q4 _ i hi) (moS_end ht f r g l ix hr hg hn q1 q2 q3 q4 _)
  have bd : (0 : Int) ≤ extI false (l.length : Int) 64 ∧ extI false (l.length : Int) 64 ≤ (l.length : Int) := by
    unfold extI
    simp only [Bool.false_eq_true, if_false]
    split <;> omega
  show ∃ tbl its, _ ∧ _ ∧ ∃ orc lp y vc, _ ∧ _ ∧ y = merQ Pr f r l ix ∧ _
  unfold merQ
  revert hs h2
  generalize foldV Pr l ix f (moreV l) = w
  generalize foldV Pr l ix f l.length = u
  generalize hN : moreV l = n
  intro hs h2
  have hb : ∀ sh, ∀ body, Tryd.f124.body = some body → LoopsFor Tryd.prog W.cell? [ysV f r g l ix sh] (lps [(1, inV f r g l ix f 0, .exit 0, inV f r g l ix w n)]) body := fun sh body hb => by
    obtain rfl := Option.some.inj hb
    exact LoopsFor.cons (by kernel_rfl) (hs sh) LoopsFor.nil
  have hb2 : ∀ body, Tryd.f59.body = some body → LoopsFor Tryd.prog W.cell? [] (lps [(11, moS f r g l ix w 0, .exit 2, moS f r g l ix u (l.length - n))]) body := fun body hb => by
    obtain rfl := Option.some.inj hb
    exact LoopsFor.cons (by kernel_rfl) h2 LoopsFor.nil
  clear hs h2
  subst hN
  have hc : (0 : Int) ≤ ((cvU (l.length : Int)).toNat : Int) := by omega
  cases hl : decide ((l.length : Int) < 64) with
  | false =>
    have e : beyQ l ix = false := by unfold beyQ; rw [hl]
    rw [e]
    exact ⟨_, _, ht', itV_ok f r w g l ix (moreV l), says [(16, false)], lps [(11, moS f r g l ix w 0, .exit 2, moS f r g l ix u (l.length - moreV l))], eqB u r 0 32,
      [ToldIs (moS f r g l ix w 0), (0 : Int) ≤ extI false (l.length : Int) 64 ∧ extI false (l.length : Int) 64 ≤ (l.length : Int), ∀ body, Tryd.f124.body = some body → LoopsFor Tryd.prog W.cell? [ysV f r g l ix false] (lps [(1, inV f r g l ix f 0, .exit 0, inV f r g l ix w (moreV l))]) body,
        ToldIs (inV f r g l ix f 0), decide ((l.length : Int) < 64) = false], by kernel_rfl, ⟨toldIs _, bd, hb false, toldIs _, hl, trivial⟩, rfl, hb2⟩
  | true =>
    cases hs : (((shW ix (l.length : Int)).toNat : Int) != 0) with
    | false =>
      have e : beyQ l ix = false := by unfold beyQ; rw [hl]; exact hs
      rw [e]
      exact ⟨_, _, ht', itV_ok f r w g l ix (moreV l), says [(16, true), (23, false)], lps [(11, moS f r g l ix w 0, .exit 2, moS f r g l ix u (l.length - moreV l))], eqB u r 0 32,
        [ToldIs (moS f r g l ix w 0), (0 : Int) ≤ extI false (l.length : Int) 64 ∧ extI false (l.length : Int) 64 ≤ (l.length : Int), ∀ body, Tryd.f124.body = some body → LoopsFor Tryd.prog W.cell? [ysV f r g l ix true] (lps [(1, inV f r g l ix f 0, .exit 0, inV f r g l ix w (moreV l))]) body,
          ToldIs (inV f r g l ix f 0), (((shW ix (l.length : Int)).toNat : Int) != 0) = false, (0 : Int) ≤ ((cvU (l.length : Int)).toNat : Int), decide ((l.length : Int) < 64) = true], by kernel_rfl, ⟨toldIs _, bd, hb true, toldIs _, hs, hc, hl, trivial⟩, rfl, hb2⟩
    | true =>
      have e : beyQ l ix = true := by unfold beyQ; rw [hl]; exact hs
      rw [e]
      exact ⟨_, _, ht', ITblOK.nil _, says [(16, true), (23, true)], noLoop, false, [(((shW ix (l.length : Int)).toNat : Int) != 0) = true, (0 : Int) ≤ ((cvU (l.length : Int)).toNat : Int), decide ((l.length : Int) < 64) = true], by kernel_rfl, ⟨hs, hc, hl, trivial⟩, rfl, fun body _ => loopsFor_none⟩
theorem verify_ok : Computes A Tryd.prog 59 (fun x : GA (R8 32 × Rt 32 × UInt64 × R8 32 × Unit) => merQ pairR8 x.x.1.f x.x.2.2.2.1.f x.x.2.1.l x.x.2.2.1) := verify_of (.cons pair_ok.row (.nil _))
theorem refVerify_ok : Computes A Tryd.prog 61 (fun x : Hs Mk × R8 32 × Rt 32 × UInt64 × R8 32 × Unit => verQ pairR8 x.2.1.f x.2.2.2.2.1.f x.2.2.1.l x.2.2.2.1) := refVerify_of (.cons makerPair_ok.row (.nil _))
theorem fold_ok : Computes A Tryd.prog 60 (fun x : Hs Mk × R8 32 × Rt 32 × UInt64 × Unit => (⟨foldV pairR8 x.2.2.1.l x.2.2.2.1 x.2.1.f x.2.2.1.l.length⟩ : R8 32)) := fold_of (.cons makerPair_ok.row (.nil _))
theorem hasher_ok : Computes A Tryd.prog 39 (fun _ : Unit => (⟨.mk⟩ : Hz Mk)) := by
  refine computes_of_run (.cons new_ok.row (.nil _)) Tryd.func39 (by kernel_rfl) (by kernel_rfl) 4 ?_
  rintro ⟨⟩ ⟨⟩ W -
  exact ⟨fun _ _ => .keep, ⟨.mk⟩, [TabsAre], by kernel_rfl, ⟨tabsAre, trivial⟩, rfl⟩
end Go.Proofs.YtaloefkkllebeaaDoor
