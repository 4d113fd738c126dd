/- Arguments that are slices of bytes: what they hold, read from outside memory or from a block of one's own. -/
import Derived.Test.YtbdbmcdcjejffaaEnI
set_option linter.unusedVariables false
set_option linter.unusedSimpArgs false
set_option linter.unusedSectionVars false
namespace Go.Sh
open Go.RowKit

/-- The bytes of a slice. -/
structure Bs where
  l : List UInt8

section
variable {B : Type} [Big B]

def u8of : At B → UInt8
  | .u8 x => x
  | _ => 0

def isU8 : At B → Bool
  | .u8 _ => true
  | _ => false

/-- Cell j of bytes. -/
def byteAt (l : List UInt8) : Nat → At B := fun j => .u8 (l.getD j 0)

def bytesL : List (SV (At B)) → Option (List UInt8)
  | [] => some []
  | .a (.u8 x) :: l => match bytesL l with | some r => some (x :: r) | none => none
  | .v (.int .u8 (.ofNat k)) :: l => if k < 256 then (match bytesL l with | some r => some (UInt8.ofNat k :: r) | none => none) else none
  | _ => none

theorem bytesL_is {β : Adr} : ∀ {l : List (SV (At B))} {vs : List Value} {r : List UInt8}, LIs β l vs → bytesL l = some r → vs = r.map fun x => Value.int .u8 x.toNat
  | [], vs, r, h, e => by simp [bytesL] at e; subst e; exact h
  | s :: l, vs, r, ⟨x, y, h1, h2, e'⟩, e => by
    subst e'
    unfold bytesL at e
    split at e
    · rename_i heq; cases heq
    · rename_i z l' heq
      obtain ⟨rfl, rfl⟩ := List.cons.inj heq
      split at e
      · rename_i r' hr
        simp at e; subst e
        have h3 : x = [Value.int .u8 z.toNat] := h1
        rw [bytesL_is h2 hr, h3]
        rfl
      · cases e
    · rename_i k l' heq
      obtain ⟨rfl, rfl⟩ := List.cons.inj heq
      split at e
      · rename_i hk
        split at e
        · rename_i r' hr
          simp at e; subst e
          obtain ⟨h3, _⟩ := h1
          rw [bytesL_is h2 hr, h3]
          simp [UInt8.toNat_ofNat_of_lt' hk]
        · cases e
      · cases e
    · cases e

/-- Where a slice lies, and how many cells it may take. -/
structure Spot where
  a : Option Addr
  c : Nat

/-- In this world these bytes lie there. -/
def HasBytes (W : World) (l : List UInt8) (g : Spot) : Prop :=
  l.length ≤ g.c ∧ (g.a = none → g.c = 0) ∧ ∀ a, g.a = some a → ∀ i, i < l.length → W.cell? (a.add i) = some (.int .u8 (l.getD i 0).toNat)

def spotVal (n : Nat) (g : Spot) : Value :=
  match g.a with
  | none => .slice none 0 0
  | some a => .slice (some a) n g.c

def bsParse (old : Addr → Option Value) (m : Mem (At B)) : TV (At B) → Option (Bs × List Prop)
  | .val false [.e a f i n _] => some (⟨(List.range n).map fun j => u8of (f (i + j))⟩, [Reads old a f i n, ∀ j, j < n → isU8 (f (i + j)) = true])
  | .val false [.s i off n c] =>
    match nth m i with
    | some (some blk) =>
      match cut blk.cells off n with
      | some l =>
        match bytesL (flat l) with
        | some r => if n ≤ c then some (⟨r⟩, []) else none
        | none => none
      | none => none
    | _ => none
  | .val false [.kn f i n 1] => some (⟨(List.range n).map fun j => u8of (f (i + j))⟩, [∀ j, j < n → isU8 (f (i + j)) = true])
  | .val false [.v (.slice none 0 0)] => some (⟨[]⟩, [])
  | _ => none

theorem isU8_cell {x : At B} {v : Value} (h : isU8 x = true) (e : Atom.cells x = [v]) : v = .int .u8 (u8of x).toNat := by
  cases x <;> simp [isU8] at h
  rename_i y
  have k4 : [Value.int .u8 y.toNat] = [v] := e
  simp at k4
  exact k4.symm

theorem getD_range (g : Nat → UInt8) (n j : Nat) (h : j < n) : ((List.range n).map g).getD j 0 = g j := by
  simp [List.getD_eq_getElem?_getD, h]

instance : Arg (At B) Bs where
  G := Spot
  good W g x := HasBytes W x.l g
  tv g x := .val false [.e g.a (byteAt x.l) 0 x.l.length g.c]
  val g x := spotVal x.l.length g
  is := by
    intro W g x β h
    obtain ⟨a, c⟩ := g
    obtain ⟨h1, h2, h3⟩ := h
    cases a with
    | none =>
      have hc : c = 0 := h2 rfl
      exact LIs.of_single ⟨by simp only at h1; omega, hc, rfl⟩
    | some a => exact LIs.of_single ⟨a, fun _ => (by simp [Addr.add]), h1, rfl⟩
  parse := bsParse
  ok := by
    intro c X W0 W β m t x vc v h hvc hm e
    unfold bsParse at h
    split at h
    · rename_i a f i n cp
      simp at h
      obtain ⟨rfl, rfl⟩ := h
      have e1 := LIs.single (e : LIs β _ [v])
      cases a with
      | none =>
        obtain ⟨rfl, rfl, e2⟩ := e1
        simp at e2
        exact ⟨⟨none, 0⟩, ⟨Nat.le_refl _, fun _ => rfl, fun a ha => (by cases ha)⟩, e2⟩
      | some a =>
        obtain ⟨p, hp, hn, e2⟩ := e1
        simp at e2
        refine ⟨⟨some p, cp⟩, ⟨by simpa using hn, fun ha => (by cases ha), fun b hb j hj => ?_⟩, by simpa [spotVal] using e2⟩
        obtain rfl := Option.some.inj hb
        simp at hj
        have h1 : Reads c.old (some a) f i n := hvc _ (by simp)
        have h2 : ∀ j, j < n → isU8 (f (i + j)) = true := hvc _ (by simp)
        rw [hp (by omega), Addr.add_add]
        obtain ⟨u, k1, k2⟩ := h1 a rfl j hj
        rw [hm.cell k1]
        have k3 := h2 j hj
        congr 1
        cases hf : f (i + j) <;> rw [hf] at k3 k2 <;> simp [isU8] at k3
        rename_i y
        have k4 : [Value.int .u8 y.toNat] = [u] := k2
        simp at k4
        rw [← k4]
        simp [hj, hf, u8of]
    · rename_i i off n cp
      split at h
      · rename_i blk hb
        split at h
        · rename_i l hl
          split at h
          · rename_i r hr
            split at h
            · rename_i hn
              simp at h
              obtain ⟨rfl, rfl⟩ := h
              obtain ⟨b, hb1, e2⟩ := LIs.single (e : LIs β _ [v])
              simp at e2
              obtain ⟨b', vs, fz, hb2, hvs, hheap, _⟩ := hm.mem' hb hb1
              have : b' = b := by rw [hb1] at hb2; exact (Option.some.inj hb2).symm
              subst this
              obtain ⟨h1, h2⟩ := cut_is hvs hl
              have h3 := bytesL_is (flat_is h1) hr
              have hlen : r.length = n := by
                have := congrArg List.length h3
                simp at this
                omega
              refine ⟨⟨some ⟨b', off, none⟩, cp⟩, ⟨by simpa [hlen] using hn, fun ha => (by cases ha), fun a ha j hj => ?_⟩, by simpa [spotVal, hlen] using e2⟩
              obtain rfl := Option.some.inj ha
              rw [add_none, cell_of_row W b' (off + j) _ _ fz hheap]
              simp only at hj
              have h4 : ((vs.drop off).take n)[j]? = some (.int .u8 (r.getD j 0).toNat) := by
                rw [h3, List.getElem?_map, List.getD_eq_getElem?_getD]
                rw [List.getElem?_eq_getElem hj]
                rfl
              rw [List.getElem?_take, if_pos (by omega), List.getElem?_drop] at h4
              simpa using h4
            · cases h
          · cases h
        · cases h
      · cases h
    · rename_i f i n
      simp at h
      obtain ⟨rfl, rfl⟩ := h
      have e1 : knownIs β f i n 1 [v] := LIs.single (e : LIs β _ [v])
      rcases e1 with ⟨rfl, e2⟩ | ⟨p, cp, e2, hn, hk⟩
      · simp at e2
        exact ⟨⟨none, 0⟩, ⟨Nat.le_refl _, fun _ => rfl, fun a ha => (by cases ha)⟩, e2⟩
      · simp at e2
        refine ⟨⟨some p, cp⟩, ⟨by simpa using hn, fun ha => (by cases ha), fun b hb j hj => ?_⟩, by simpa [spotVal] using e2⟩
        obtain rfl := Option.some.inj hb
        simp at hj
        obtain ⟨u, k1, k2⟩ := hk j (by omega)
        rw [(hm.kn _ _ k1).1, isU8_cell (hvc (∀ j, j < n → isU8 (f (i + j)) = true) (by simp) j hj) k2, getD_range _ n j hj]
    · simp at h
      obtain ⟨rfl, rfl⟩ := h
      obtain ⟨e1, _⟩ := LIs.single (e : LIs β _ [v])
      simp at e1
      exact ⟨⟨none, 0⟩, ⟨Nat.le_refl _, fun _ => rfl, fun a ha => (by cases ha)⟩, e1⟩
    · cases h

/-- Bytes that a call leaves. -/
structure Bz where
  l : List UInt8

/-- A slice of new memory with these bytes. -/
def HasFresh (W : World) (n : Nat) (l : List UInt8) (v : Value) : Prop :=
  (l = [] ∧ v = .slice none 0 0) ∨ ∃ a c, v = .slice (some a) l.length c ∧ l.length ≤ c ∧ ∀ i, i < l.length → W.cell? (a.add i) = some (.int .u8 (l.getD i 0).toNat) ∧ n ≤ (a.add i).block

def bzParse (m : Mem (At B)) : TV (At B) → Option (Bz × List Prop)
  | .val false [.s i off n c] =>
    match nth m i with
    | some (some blk) =>
      match blk.ro, cut blk.cells off n with
      | false, some l =>
        match bytesL (flat l) with
        | some r => if n ≤ c then some (⟨r⟩, []) else none
        | none => none
      | _, _ => none
    | _ => none
  | .val false [.kn f i n 1] => some (⟨(List.range n).map fun j => u8of (f (i + j))⟩, [∀ j, j < n → isU8 (f (i + j)) = true])
  | .val false [.v (.slice none 0 0)] => some (⟨[]⟩, [])
  | _ => none

instance : Ret (At B) Bz where
  tv x := .val false [.kn (byteAt x.l) 0 x.l.length 1]
  good W n x v := HasFresh W n x.l v
  is := by
    intro W n x v h
    rcases h with ⟨h1, rfl⟩ | ⟨a, c, rfl, h1, h2⟩
    · exact ⟨fun _ _ => False, fun _ _ h => h.elim, fun β => LIs.of_single (.inl ⟨by rw [h1]; rfl, rfl⟩)⟩
    · refine ⟨fun a' u => ∃ i, i < x.l.length ∧ a' = a.add i ∧ u = .int .u8 (x.l.getD i 0).toNat, ?_, fun β => LIs.of_single (.inr ⟨a, c, rfl, h1, fun j hj => ⟨_, .inr ⟨j, by omega, rfl, rfl⟩, ?_⟩⟩)⟩
      · rintro a' u ⟨i, hi, rfl, rfl⟩
        exact h2 i hi
      · rw [Nat.zero_add]; rfl
  parse := bzParse
  ok := by
    intro c W0 W β m t x vc v h hvc hm e
    unfold bzParse at h
    split at h
    · rename_i i off n cp
      split at h
      · rename_i blk hb
        split at h
        · rename_i l hro hl
          split at h
          · rename_i r hr
            split at h
            · rename_i hn
              simp at h
              obtain ⟨rfl, rfl⟩ := h
              obtain ⟨b, hb1, e2⟩ := LIs.single (e : LIs β _ [v])
              simp at e2
              obtain ⟨b', vs, fz, hb2, hvs, hheap, hfr⟩ := hm.mem' hb hb1
              have : b' = b := by rw [hb1] at hb2; exact (Option.some.inj hb2).symm
              subst this
              obtain ⟨h1, h2⟩ := cut_is hvs hl
              have h3 := bytesL_is (flat_is h1) hr
              have hlen : r.length = n := by
                have := congrArg List.length h3
                simp at this
                omega
              refine .inr ⟨⟨b', off, none⟩, cp, by rw [e2, hlen], by simpa [hlen] using hn, fun j hj => ⟨?_, ?_⟩⟩
              · rw [add_none, cell_of_row W b' (off + j) _ _ fz hheap]
                simp only at hj
                have h4 : ((vs.drop off).take n)[j]? = some (.int .u8 (r.getD j 0).toNat) := by
                  rw [h3, List.getElem?_map, List.getD_eq_getElem?_getD]
                  rw [List.getElem?_eq_getElem hj]
                  rfl
                rw [List.getElem?_take, if_pos (by omega), List.getElem?_drop] at h4
                simpa using h4
              · rw [add_none]
                exact (hfr hro).2.resolve_right id
            · cases h
          · cases h
        · cases h
      · cases h
    · rename_i f i n
      simp at h
      obtain ⟨rfl, rfl⟩ := h
      have e1 : knownIs β f i n 1 [v] := LIs.single (e : LIs β _ [v])
      rcases e1 with ⟨rfl, e2⟩ | ⟨p, cp, e2, hn, hk⟩
      · simp at e2
        exact .inl ⟨rfl, e2⟩
      · simp at e2
        refine .inr ⟨p, cp, by simpa using e2, by simpa using hn, fun j hj => ?_⟩
        simp at hj
        obtain ⟨u, k1, k2⟩ := hk j (by omega)
        obtain ⟨k3, k4, _⟩ := hm.kn _ _ k1
        exact ⟨by rw [k3, isU8_cell (hvc (∀ j, j < n → isU8 (f (i + j)) = true) (by simp) j hj) k2, getD_range _ n j hj], k4.resolve_right id⟩
    · simp at h
      obtain ⟨rfl, rfl⟩ := h
      obtain ⟨e1, _⟩ := LIs.single (e : LIs β _ [v])
      simp at e1
      exact .inl ⟨rfl, e1⟩
    · cases h

/-- Bytes of an argument are read. -/
theorem reads_bytes {W : World} {l : List UInt8} {g : Spot} (h : HasBytes W l g) {i n : Nat} (hi : i + n ≤ l.length) : Reads W.cell? g.a (byteAt (B := B) l) i n := by
  intro b hb j hj
  exact ⟨_, h.2.2 b hb (i + j) (by omega), rfl⟩

omit [Big B] in
theorem isU8_bytes (l : List UInt8) (i n : Nat) : ∀ j, j < n → isU8 (byteAt (B := B) l (i + j)) = true := fun _ _ => rfl

omit [Big B] in
/-- A part of bytes. -/
theorem bytes_part (l : List UInt8) {i n : Nat} (h : i + n ≤ l.length) : ((List.range n).map fun j => u8of (byteAt (B := B) l (i + j))) = (l.drop i).take n := by
  apply List.ext_getElem
  · simp; omega
  · intro j h1 h2
    simp at h1
    simp [u8of, byteAt, List.getD_eq_getElem?_getD, List.getElem?_eq_getElem (show i + j < l.length by omega)]
end
end Go.Sh
