/- Slices of rows of bytes; a maker in a struct. -/
import Derived.Test.YtaloefkkllebeaaDoorSf2
set_option linter.unusedVariables false
set_option linter.unusedSimpArgs false
set_option linter.unusedSectionVars false
namespace Go.Sh
/-- A slice's rows, of n bytes each. -/
structure Rs (n : Nat) where
  l : List (R8 n)
/-- Such a slice that a call leaves. -/
structure Rz (n : Nat) where
  l : List (R8 n)
def noR (n : Nat) : R8 n := ⟨fun _ => 0⟩
def rsB {n : Nat} (l : List (R8 n)) (j : Nat) : UInt8 := (l.getD (j / n) (noR n)).f (j % n)
def rsAt {n : Nat} (l : List (R8 n)) : Nat → A := fun j => .u8 (rsB l j)
theorem rsB_at {n : Nat} (l : List (R8 n)) (k j : Nat) (h : j < n) : rsB l (n * k + j) = (l.getD k (noR n)).f j := by
  unfold rsB
  rw [Nat.mul_add_div (by omega), Nat.div_eq_of_lt h, Nat.add_zero, Nat.mul_add_mod, Nat.mod_eq_of_lt h]
def HasRows {n : Nat} (W : World) (l : List (R8 n)) (g : Spot) : Prop :=
  l.length ≤ g.c ∧ (g.a = none → g.c = 0) ∧ ∀ a, g.a = some a → ∀ i, i < l.length * n → W.cell? (a.add i) = some (.int .u8 (rsB l i).toNat)
/-- Rows, cut out of cells. -/
def cutR (n : Nat) (f : Nat → UInt8) (m : Nat) : List (R8 n) := (List.range m).map fun k => ⟨fun j => f (n * k + j)⟩
theorem cutR_len (n : Nat) (f : Nat → UInt8) (m : Nat) : (cutR n f m).length = m := by simp [cutR]
theorem cutR_at (n : Nat) (f : Nat → UInt8) (m i : Nat) (h : i < m * n) : rsB (cutR n f m) i = f i := by
  have hn : 0 < n := by
    rcases Nat.eq_zero_or_pos n with h' | h'
    · subst h'; simp at h
    · exact h'
  have h1 : i / n < m := (Nat.div_lt_iff_lt_mul hn).2 h
  unfold rsB cutR
  rw [List.getD_eq_getElem?_getD, List.getElem?_map, List.getElem?_range h1]
  show f (n * (i / n) + i % n) = f i
  rw [Nat.div_add_mod]
def rsParse (n : Nat) (old : Addr → Option Value) (m : Mem A) : TV A → Option (Rs n × List Prop)
  | .val false [.e a f i k _] => some (⟨cutR n (fun j => u8of (f (i + j))) k⟩, [Reads old a f i (k * n), ∀ j, j < k * n → isU8 (f (i + j)) = true])
  | .val false [.kn f i k sz] => if sz = n then some (⟨cutR n (fun j => u8of (f (i + j))) k⟩, [∀ j, j < k * n → isU8 (f (i + j)) = true]) else none
  | .val false [.s i off k c] =>
    match nth m i with
    | some (some blk) =>
      match cut blk.cells off (k * n) with
      | some l =>
        match bytesL (flat l) with
        | some r => if k ≤ c then some (⟨cutR n (pickN 0 r) k⟩, []) else none
        | none => none
      | none => none
    | _ => none
  | .val false [.v (.slice none 0 0)] => some (⟨[]⟩, [])
  | _ => none
instance (n : Nat) : Arg A (Rs n) where
  G := Spot
  good W g x := HasRows W x.l g
  tv g x := .val false [.e g.a (rsAt x.l) 0 x.l.length g.c]
  val g x := spotVal x.l.length g
  is := by
    intro W g x β h
    obtain ⟨a, c⟩ := g
    obtain ⟨h1, h2, h3⟩ := h
    cases a with
    | none =>
      have hc : c = 0 := h2 rfl
      exact LIs.of_single ⟨by simp only at h1; omega, hc, rfl⟩
    | some a => exact LIs.of_single ⟨a, fun _ => (by simp [Addr.add]), h1, rfl⟩
  parse old m t := rsParse n old m (asKn t)
  ok := by
    intro c X W0 W β m t0 x vc v h hvc hm e
    replace e := asKn_is e
    revert h e
    generalize asKn t0 = t
    intro h e
    unfold rsParse at h
    split at h
    · rename_i a f i k cp
      simp at h
      obtain ⟨rfl, rfl⟩ := h
      have e1 := LIs.single (e : LIs β _ [v])
      cases a with
      | none =>
        obtain ⟨rfl, rfl, e2⟩ := e1
        simp at e2
        exact ⟨⟨none, 0⟩, ⟨Nat.le_refl _, fun _ => rfl, fun a ha => (by cases ha)⟩, e2⟩
      | some a =>
        obtain ⟨p, hp, hn, e2⟩ := e1
        simp at e2
        refine ⟨⟨some p, cp⟩, ⟨by simpa [cutR_len] using hn, fun ha => (by cases ha), fun b hb j hj => ?_⟩, by simpa [spotVal, cutR_len] using e2⟩
        obtain rfl := Option.some.inj hb
        rw [cutR_len] at hj
        have h1 : Reads c.old (some a) f i (k * n) := hvc _ (by simp)
        have h2 : ∀ j, j < k * n → isU8 (f (i + j)) = true := hvc _ (by simp)
        have hk : 0 < k := by
          rcases Nat.eq_zero_or_pos k with h' | h'
          · subst h'; simp at hj
          · exact h'
        rw [hp (by omega), Addr.add_add]
        obtain ⟨u, k1, k2⟩ := h1 a rfl j hj
        rw [hm.cell k1, isU8_cell (h2 j hj) k2, cutR_at _ _ _ _ hj]
    · rename_i f i k sz
      split at h
      · rename_i hsz
        subst hsz
        simp at h
        obtain ⟨rfl, rfl⟩ := h
        have e1 : knownIs β f i k sz [v] := LIs.single (e : LIs β _ [v])
        rcases e1 with ⟨rfl, e2⟩ | ⟨p, cp, e2, hn, hk⟩
        · simp at e2
          exact ⟨⟨none, 0⟩, ⟨Nat.le_refl _, fun _ => rfl, fun a ha => (by cases ha)⟩, e2⟩
        · simp at e2
          refine ⟨⟨some p, cp⟩, ⟨by simpa [cutR_len] using hn, fun ha => (by cases ha), fun b hb j hj => ?_⟩, by simpa [spotVal, cutR_len] using e2⟩
          obtain rfl := Option.some.inj hb
          rw [cutR_len] at hj
          obtain ⟨u, k1, k2⟩ := hk j hj
          rw [(hm.kn _ _ k1).1, isU8_cell (hvc (∀ j, j < k * sz → isU8 (f (i + j)) = true) (by simp) j hj) k2, cutR_at _ _ _ _ hj]
      · cases h
    · rename_i i off k cp
      split at h
      · rename_i blk hb
        split at h
        · rename_i l hl
          split at h
          · rename_i r hr
            split at h
            · rename_i hkc
              simp at h
              obtain ⟨rfl, rfl⟩ := h
              obtain ⟨b, hb1, e2⟩ := LIs.single (e : LIs β _ [v])
              simp at e2
              obtain ⟨b', vs, fz, hb2, hvs, hheap, _⟩ := hm.mem' hb hb1
              have : b' = b := by rw [hb1] at hb2; exact (Option.some.inj hb2).symm
              subst this
              obtain ⟨h1, h2⟩ := cut_is hvs hl
              have h3 := bytesL_is (flat_is h1) hr
              have hlen : r.length = k * n := by
                have := congrArg List.length h3
                simp at this
                omega
              refine ⟨⟨some ⟨b', off, none⟩, cp⟩, ⟨by simpa [cutR_len] using hkc, fun ha => (by cases ha), fun b0 hb0 j hj => ?_⟩, by simpa [spotVal, cutR_len] using e2⟩
              obtain rfl := Option.some.inj hb0
              rw [cutR_len] at hj
              rw [add_none, cell_of_row W b' (off + j) _ _ fz hheap, cutR_at _ _ _ _ hj]
              have h4 : ((vs.drop off).take (k * n))[j]? = some (Value.int .u8 ((pickN 0 r j).toNat : Int)) := by
                rw [h3, List.getElem?_map, pickN_at 0 r j (by omega)]
                rfl
              rw [List.getElem?_take, if_pos hj, List.getElem?_drop] at h4
              simpa using h4
            · cases h
          · cases h
        · cases h
      · cases h
    · simp at h
      obtain ⟨rfl, rfl⟩ := h
      obtain ⟨e1, _⟩ := LIs.single (e : LIs β _ [v])
      simp at e1
      exact ⟨⟨none, 0⟩, ⟨Nat.le_refl _, fun _ => rfl, fun a ha => (by cases ha)⟩, e1⟩
    · cases h
def FreshRows {n : Nat} (W : World) (b : Nat) (l : List (R8 n)) (v : Value) : Prop :=
  (l = [] ∧ v = .slice none 0 0) ∨ ∃ a c, v = .slice (some a) l.length c ∧ l.length ≤ c ∧ ∀ i, i < l.length * n → W.cell? (a.add i) = some (.int .u8 (rsB l i).toNat) ∧ b ≤ (a.add i).block
def rzParse (n : Nat) : TV A → Option (Rz n × List Prop)
  | .val false [.kn f i k sz] => if sz = n then some (⟨cutR n (fun j => u8of (f (i + j))) k⟩, [∀ j, j < k * n → isU8 (f (i + j)) = true]) else none
  | .val false [.v (.slice none 0 0)] => some (⟨[]⟩, [])
  | _ => none
instance (n : Nat) : Ret A (Rz n) where
  tv x := .val false [.kn (rsAt x.l) 0 x.l.length n]
  good W b x v := FreshRows W b x.l v
  is := by
    intro W b x v h
    rcases h with ⟨h1, rfl⟩ | ⟨a, c, rfl, h1, h2⟩
    · exact ⟨fun _ _ => False, fun _ _ h => h.elim, fun β => LIs.of_single (.inl ⟨by rw [h1]; rfl, rfl⟩)⟩
    · refine ⟨fun a' u => ∃ i, i < x.l.length * n ∧ a' = a.add i ∧ u = .int .u8 (rsB x.l i).toNat, ?_, fun β => LIs.of_single (.inr ⟨a, c, rfl, h1, fun j hj => ⟨_, .inr ⟨j, hj, rfl, rfl⟩, ?_⟩⟩)⟩
      · rintro a' u ⟨i, hi, rfl, rfl⟩
        exact h2 i hi
      · rw [Nat.zero_add]; rfl
  parse m t := rzParse n (asKn t)
  ok := by
    intro c W0 W β m t0 x vc v h hvc hm e
    replace e := asKn_is e
    revert h e
    generalize asKn t0 = t
    intro h e
    unfold rzParse at h
    split at h
    · rename_i f i k sz
      split at h
      · rename_i hsz
        subst hsz
        simp at h
        obtain ⟨rfl, rfl⟩ := h
        have e1 : knownIs β f i k sz [v] := LIs.single (e : LIs β _ [v])
        rcases e1 with ⟨rfl, e2⟩ | ⟨p, cp, e2, hn, hk⟩
        · simp at e2
          exact .inl ⟨rfl, e2⟩
        · simp at e2
          refine .inr ⟨p, cp, by simpa [cutR_len] using e2, by simpa [cutR_len] using hn, fun j hj => ?_⟩
          rw [cutR_len] at hj
          obtain ⟨u, k1, k2⟩ := hk j hj
          obtain ⟨k3, k4, _⟩ := hm.kn _ _ k1
          exact ⟨by rw [k3, isU8_cell (hvc (∀ j, j < k * sz → isU8 (f (i + j)) = true) (by simp) j hj) k2, cutR_at _ _ _ _ hj], k4.resolve_right id⟩
      · cases h
    · simp at h
      obtain ⟨rfl, rfl⟩ := h
      obtain ⟨e1, _⟩ := LIs.single (e : LIs β _ [v])
      simp at e1
      exact .inl ⟨rfl, e1⟩
    · cases h
theorem reads_rows {n : Nat} {W : World} {l : List (R8 n)} {g : Spot} (h : HasRows W l g) {i m : Nat} (hi : i + m ≤ l.length * n) : Reads W.cell? g.a (rsAt l) i m := by
  intro b hb j hj
  exact ⟨_, h.2.2 b hb (i + j) (by omega), rfl⟩
/-- A slice's rows, not too many. -/
structure Rt (n : Nat) where
  l : List (R8 n)
instance (n : Nat) : Arg A (Rt n) where
  G := Spot
  good W g x := HasRows W x.l g ∧ x.l.length < 1048576
  tv g x := .val false [.e g.a (rsAt x.l) 0 x.l.length g.c]
  val g x := spotVal x.l.length g
  is β h := Arg.is (A := A) (T := Rs n) (x := ⟨_⟩) β h.1
  parse old m t := match rsParse n old m (asKn t) with | some (b, vc) => some (⟨b.l⟩, (b.l.length < 1048576) :: vc) | none => none
  ok := by
    intro c X W0 W β m t x vc v h hvc hm e
    split at h
    · rename_i b vc' hb
      simp at h
      obtain ⟨rfl, rfl⟩ := h
      obtain ⟨g, h1, h2⟩ := Arg.ok (A := A) (T := Rs n) (c := c) (m := m) (t := t) hb (fun p hp => hvc p (by simp [hp])) hm e
      exact ⟨g, ⟨h1, hvc _ (by simp)⟩, h2⟩
    · cases h
/-- A struct with nothing but a pointer to such data. -/
structure Hs (T : Type) where
  x : T
/-- Such a struct whose pointer is to new memory. -/
structure Hz (T : Type) where
  x : T
/-- So many bytes, from i on. -/
def extR (F : Nat → UInt8) (i : Nat) : Nat → List UInt8
  | 0 => []
  | n + 1 => F i :: extR F (i + 1) n
def elR (F : Nat → UInt8) (i : Nat) : Nat → UInt8 := pickN 0 (extR F i 32)
theorem extR_at (F : Nat → UInt8) : ∀ (n i j : Nat), j < n → pickN 0 (extR F i n) j = F (i + j)
  | n + 1, i, 0, _ => rfl
  | n + 1, i, j + 1, h => by
    show pickN 0 (extR F (i + 1) n) j = _
    rw [extR_at F n (i + 1) j (by omega)]
    congr 1
    omega
/-- Row k of a slice of rows of 32 bytes. -/
def elL (l : List (R8 32)) (k : Nat) : Nat → UInt8 := elR (rsB l) (k * 32)
theorem elL_at (l : List (R8 32)) (k j : Nat) (h : j < 32) : elL l k j = (l.getD k (noR 32)).f j := by
  unfold elL elR
  rw [extR_at _ _ _ _ h, Nat.mul_comm, rsB_at _ _ _ h]
def isPtr : SV A → Bool
  | .p .. => true
  | .q .. => true
  | .ka .. => true
  | _ => false
theorem ptr_one {β : Adr} {s : SV A} {vs : List Value} (hs : isPtr s = true) (h : LIs β [s] vs) : ∃ u, vs = [u] := by
  obtain ⟨x, y, h1, h2, rfl⟩ := h
  obtain rfl : y = [] := h2
  cases s with
  | p i off => obtain ⟨b, hb, rfl⟩ := h1; exact ⟨_, rfl⟩
  | q a f i => obtain ⟨b, hb, rfl⟩ := h1; exact ⟨_, rfl⟩
  | ka f i k => obtain ⟨b, rfl, hb⟩ := h1; exact ⟨_, rfl⟩
  | _ => simp [isPtr] at hs
def hsParse {T : Type} [Rep A T] [Celled T] (old : Addr → Option Value) (m : Mem A) : TV A → Option (Hs T × List Prop)
  | .val true [s] => match isPtr s with
    | true => (match ptrParse (T := T) old m (.val false [s]) with | some (x, vc) => some (⟨x.x⟩, vc) | none => none)
    | false => none
  | _ => none
instance {T : Type} [Rep A T] [Celled T] : Arg A (Hs T) where
  G := Addr
  good W a x := ∀ j, j < Celled.n T → ∃ v, W.cell? (a.add j) = some v ∧ Atom.cells (Celled.cellA x.x j) = [v]
  tv a x := .val true [.q (some a) (Celled.cellA x.x) 0]
  val a x := .agg #[.pointer (some a)]
  is := by
    intro W a x β _
    exact ⟨[.pointer (some a)], LIs.of_single ⟨a, rfl, by simp [Addr.add]⟩, rfl⟩
  parse old m t := hsParse old m t
  ok := by
    intro c X W0 W β m t x vc v h hvc hm e
    unfold hsParse at h
    split at h
    · rename_i s
      split at h
      · rename_i hs
        split at h
        · rename_i y vc' hy
          simp at h
          obtain ⟨rfl, rfl⟩ := h
          obtain ⟨vs, h1, rfl⟩ := e
          obtain ⟨u, rfl⟩ := ptr_one hs h1
          obtain ⟨g, k1, k2⟩ := Arg.ok (A := A) (T := Ptr T) (x := y) (t := .val false [s]) hy hvc hm h1
          have k2 : u = .pointer (some g) := k2
          exact ⟨g, k1, by rw [k2]⟩
        · cases h
      · cases h
    · cases h
instance {T : Type} [Rep A T] [Celled T] : Ret A (Hz T) where
  tv x := .val true [.ka (Celled.cellA x.x) 0 (Celled.n T)]
  good W n x v := ∃ a, v = .agg #[.pointer (some a)] ∧ ∀ j, j < Celled.n T → ∃ u, W.cell? (a.add j) = some u ∧ n ≤ (a.add j).block ∧ Atom.cells (Celled.cellA x.x j) = [u]
  is := by
    rintro W n x v ⟨a, rfl, h⟩
    refine ⟨fun a' u => ∃ j, j < Celled.n T ∧ a' = a.add j ∧ W.cell? (a.add j) = some u ∧ n ≤ (a.add j).block, ?_, fun β => ⟨[.pointer (some a)], LIs.of_single ⟨a, rfl, fun j hj => ?_⟩, rfl⟩⟩
    · rintro a' u ⟨j, hj, rfl, h1, h2⟩
      exact ⟨h1, h2⟩
    · obtain ⟨u, h1, h2, h3⟩ := h j hj
      exact ⟨u, .inr ⟨j, hj, rfl, h1, h2⟩, by rw [Nat.zero_add]; exact h3⟩
  parse m t := match t with
    | .val true [.ka f i k] => (match Nat.ble (Celled.n T) k with | true => some (⟨Celled.of f i⟩, [Celled.must T f i]) | false => none)
    | _ => none
  ok := by
    intro c W0 W β m t x vc v h hvc hm e
    split at h
    · rename_i f i k
      split at h
      · rename_i hk
        simp at h
        obtain ⟨rfl, rfl⟩ := h
        obtain ⟨vs, h1, rfl⟩ := e
        obtain ⟨u, rfl⟩ := ptr_one rfl h1
        obtain ⟨ad, e2, hkn⟩ := LIs.single (h1 : LIs β _ [u])
        simp at e2
        have h2 : Celled.must T f i := hvc _ (by simp)
        have hle := Nat.le_of_ble_eq_true hk
        refine ⟨ad, by rw [e2], fun j hj => ?_⟩
        obtain ⟨u, k1, k2⟩ := hkn j (Nat.lt_of_lt_of_le hj hle)
        obtain ⟨k3, k4, _⟩ := hm.kn _ _ k1
        exact ⟨u, k3, k4.resolve_right id, by rw [← Celled.of_ok h2 j hj]; exact k2⟩
      · cases h
    · cases h
end Go.Sh
