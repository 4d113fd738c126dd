/- Arguments that are slices of bytes: what they hold, read from outside memory or from a block of one's own. -/
import Derived.Test.YtbdbmcdcjejffaaEn2
import Derived.ChangeSlices
import Derived.ProofKit
import Derived.OpenShut
import Derived.Deep.Slices
set_option linter.unusedVariables false
set_option linter.unusedSimpArgs false
set_option linter.unusedSectionVars false
namespace Go.Sh
open Go.RowKit

/-- The bytes of a slice. -/
structure Bs where
  l : List UInt8

section
variable {B : Type} [Big B]

def u8of : At B → UInt8
  | .u8 x => x
  | _ => 0

def isU8 : At B → Bool
  | .u8 _ => true
  | _ => false

/-- Cell j of bytes. -/
def byteAt (l : List UInt8) : Nat → At B := fun j => .u8 (l.getD j 0)

def bytesL : List (SV (At B)) → Option (List UInt8)
  | [] => some []
  | .a (.u8 x) :: l => match bytesL l with | some r => some (x :: r) | none => none
  | .v (.int .u8 (.ofNat k)) :: l => if k < 256 then (match bytesL l with | some r => some (UInt8.ofNat k :: r) | none => none) else none
  | _ => none

theorem bytesL_is {β : Adr} : ∀ {l : List (SV (At B))} {vs : List Value} {r : List UInt8}, LIs β l vs → bytesL l = some r → vs = r.map fun x => Value.int .u8 x.toNat
  | [], vs, r, h, e => by simp [bytesL] at e; subst e; exact h
  | s :: l, vs, r, ⟨x, y, h1, h2, e'⟩, e => by
    subst e'
    unfold bytesL at e
    split at e
    · rename_i heq; cases heq
    · rename_i z l' heq
      obtain ⟨rfl, rfl⟩ := List.cons.inj heq
      split at e
      · rename_i r' hr
        simp at e; subst e
        have h3 : x = [Value.int .u8 z.toNat] := h1
        rw [bytesL_is h2 hr, h3]
        rfl
      · cases e
    · rename_i k l' heq
      obtain ⟨rfl, rfl⟩ := List.cons.inj heq
      split at e
      · rename_i hk
        split at e
        · rename_i r' hr
          simp at e; subst e
          obtain ⟨h3, _⟩ := h1
          rw [bytesL_is h2 hr, h3]
          simp [UInt8.toNat_ofNat_of_lt' hk]
        · cases e
      · cases e
    · cases e

/-- Where a slice lies, and how many cells it may take. -/
structure Spot where
  a : Option Addr
  c : Nat

/-- In this world these bytes lie there. -/
def HasBytes (W : World) (l : List UInt8) (g : Spot) : Prop :=
  l.length ≤ g.c ∧ (g.a = none → g.c = 0) ∧ ∀ a, g.a = some a → ∀ i, i < l.length → W.cell? (a.add i) = some (.int .u8 (l.getD i 0).toNat)

def spotVal (n : Nat) (g : Spot) : Value :=
  match g.a with
  | none => .slice none 0 0
  | some a => .slice (some a) n g.c

theorem wide_z8 {l : List (SV (At B))} {off : Nat} {x : At B} (h : wideOf l off = some x) : ∃ n f, x = .z8 n f := by
  have key : ∀ y : At B, At.wide y = true → ∃ n f, y = .z8 n f := by
    intro y hw
    cases y with
    | z8 n f => exact ⟨n, f, rfl⟩
    | _ => simp [At.wide] at hw
  unfold wideOf at h
  split at h
  · split at h
    · rename_i hw
      rw [← Option.some.inj h]
      exact key _ hw
    · cases h
  · cases h
def bsParse (old : Addr → Option Value) (m : Mem (At B)) : TV (At B) → Option (Bs × List Prop)
  | .val false [.e a f i n _] => some (⟨(List.range n).map fun j => u8of (f (i + j))⟩, [Reads old a f i n, ∀ j, j < n → isU8 (f (i + j)) = true])
  | .val false [.s i off n c] =>
    match nth m i with
    | some (some blk) =>
      match wideOf blk.cells off with
      | some x => some (⟨(List.range n).map fun j => u8of ((Atom.get x j).getD Atom.dummy)⟩, [n = Atom.size x, n ≤ c, ∀ j, j < n → isU8 ((Atom.get x j).getD Atom.dummy) = true])
      | none =>
      match cut blk.cells off n with
      | some l =>
        match bytesL (flat l) with
        | some r => if n ≤ c then some (⟨r⟩, []) else none
        | none => none
      | none => none
    | _ => none
  | .val false [.kn f i n 1] => some (⟨(List.range n).map fun j => u8of (f (i + j))⟩, [∀ j, j < n → isU8 (f (i + j)) = true])
  | .val false [.v (.slice none 0 0)] => some (⟨[]⟩, [])
  | _ => none

theorem isU8_cell {x : At B} {v : Value} (h : isU8 x = true) (e : Atom.cells x = [v]) : v = .int .u8 (u8of x).toNat := by
  cases x <;> simp [isU8] at h
  rename_i y
  have k4 : [Value.int .u8 y.toNat] = [v] := e
  simp at k4
  exact k4.symm

theorem getD_range (g : Nat → UInt8) (n j : Nat) (h : j < n) : ((List.range n).map g).getD j 0 = g j := by
  simp [List.getD_eq_getElem?_getD, h]

instance : Arg (At B) Bs where
  G := Spot
  good W g x := HasBytes W x.l g
  tv g x := .val false [.e g.a (byteAt x.l) 0 x.l.length g.c]
  val g x := spotVal x.l.length g
  is := by
    intro W g x β h
    obtain ⟨a, c⟩ := g
    obtain ⟨h1, h2, h3⟩ := h
    cases a with
    | none =>
      have hc : c = 0 := h2 rfl
      exact LIs.of_single ⟨by simp only at h1; omega, hc, rfl⟩
    | some a => exact LIs.of_single ⟨a, fun _ => (by simp [Addr.add]), h1, rfl⟩
  parse old m t := bsParse old m (asKn t)
  ok := by
    intro c X W0 W β m t0 x vc v h hvc hm e
    replace e := asKn_is e
    revert h e
    generalize asKn t0 = t
    intro h e
    unfold bsParse at h
    split at h
    · rename_i a f i n cp
      simp at h
      obtain ⟨rfl, rfl⟩ := h
      have e1 := LIs.single (e : LIs β _ [v])
      cases a with
      | none =>
        obtain ⟨rfl, rfl, e2⟩ := e1
        simp at e2
        exact ⟨⟨none, 0⟩, ⟨Nat.le_refl _, fun _ => rfl, fun a ha => (by cases ha)⟩, e2⟩
      | some a =>
        obtain ⟨p, hp, hn, e2⟩ := e1
        simp at e2
        refine ⟨⟨some p, cp⟩, ⟨by simpa using hn, fun ha => (by cases ha), fun b hb j hj => ?_⟩, by simpa [spotVal] using e2⟩
        obtain rfl := Option.some.inj hb
        simp at hj
        have h1 : Reads c.old (some a) f i n := hvc _ (by simp)
        have h2 : ∀ j, j < n → isU8 (f (i + j)) = true := hvc _ (by simp)
        rw [hp (by omega), Addr.add_add]
        obtain ⟨u, k1, k2⟩ := h1 a rfl j hj
        rw [hm.cell k1]
        have k3 := h2 j hj
        congr 1
        cases hf : f (i + j) <;> rw [hf] at k3 k2 <;> simp [isU8] at k3
        rename_i y
        have k4 : [Value.int .u8 y.toNat] = [u] := k2
        simp at k4
        rw [← k4]
        simp [hj, hf, u8of]
    · rename_i i off n cp
      split at h
      · rename_i blk hb
        split at h
        · rename_i x hwd
          simp only [Option.some.injEq, Prod.mk.injEq] at h
          obtain ⟨rfl, rfl⟩ := h
          have hn : n = Atom.size x := hvc _ (by simp)
          have hcp : n ≤ cp := hvc (n ≤ cp) (by simp)
          obtain ⟨b, hb1, e2⟩ := LIs.single (e : LIs β _ [v])
          simp at e2
          obtain ⟨b', vs, fz, hb2, hvs, hheap, _⟩ := hm.mem' hb hb1
          have : b' = b := by rw [hb1] at hb2; exact (Option.some.inj hb2).symm
          subst this
          obtain ⟨rfl, hcs⟩ := wideOf_is hwd
          obtain ⟨k, f, rfl⟩ := wide_z8 hwd
          obtain rfl : n = k := hn
          have hvx : vs = At.cells (.z8 n f) := hcs hvs
          refine ⟨⟨some ⟨b', 0, none⟩, cp⟩, ⟨by simpa using hcp, fun ha => (by cases ha), fun a ha j hj => ?_⟩, by simpa [spotVal] using e2⟩
          obtain rfl := Option.some.inj ha
          simp at hj
          rw [add_none, cell_of_row W b' (0 + j) _ _ fz hheap, Nat.zero_add, hvx]
          simp [At.cells, hj, List.getD_eq_getElem?_getD]
          rfl
        split at h
        · rename_i l hl
          split at h
          · rename_i r hr
            split at h
            · rename_i hn
              simp at h
              obtain ⟨rfl, rfl⟩ := h
              obtain ⟨b, hb1, e2⟩ := LIs.single (e : LIs β _ [v])
              simp at e2
              obtain ⟨b', vs, fz, hb2, hvs, hheap, _⟩ := hm.mem' hb hb1
              have : b' = b := by rw [hb1] at hb2; exact (Option.some.inj hb2).symm
              subst this
              obtain ⟨h1, h2⟩ := cut_is hvs hl
              have h3 := bytesL_is (flat_is h1) hr
              have hlen : r.length = n := by
                have := congrArg List.length h3
                simp at this
                omega
              refine ⟨⟨some ⟨b', off, none⟩, cp⟩, ⟨by simpa [hlen] using hn, fun ha => (by cases ha), fun a ha j hj => ?_⟩, by simpa [spotVal, hlen] using e2⟩
              obtain rfl := Option.some.inj ha
              rw [add_none, cell_of_row W b' (off + j) _ _ fz hheap]
              simp only at hj
              have h4 : ((vs.drop off).take n)[j]? = some (.int .u8 (r.getD j 0).toNat) := by
                rw [h3, List.getElem?_map, List.getD_eq_getElem?_getD]
                rw [List.getElem?_eq_getElem hj]
                rfl
              rw [List.getElem?_take, if_pos (by omega), List.getElem?_drop] at h4
              simpa using h4
            · cases h
          · cases h
        · cases h
      · cases h
    · rename_i f i n
      simp at h
      obtain ⟨rfl, rfl⟩ := h
      have e1 : knownIs β f i n 1 [v] := LIs.single (e : LIs β _ [v])
      rcases e1 with ⟨rfl, e2⟩ | ⟨p, cp, e2, hn, hk⟩
      · simp at e2
        exact ⟨⟨none, 0⟩, ⟨Nat.le_refl _, fun _ => rfl, fun a ha => (by cases ha)⟩, e2⟩
      · simp at e2
        refine ⟨⟨some p, cp⟩, ⟨by simpa using hn, fun ha => (by cases ha), fun b hb j hj => ?_⟩, by simpa [spotVal] using e2⟩
        obtain rfl := Option.some.inj hb
        simp at hj
        obtain ⟨u, k1, k2⟩ := hk j (by omega)
        rw [(hm.kn _ _ k1).1, isU8_cell (hvc (∀ j, j < n → isU8 (f (i + j)) = true) (by simp) j hj) k2, getD_range _ n j hj]
    · simp at h
      obtain ⟨rfl, rfl⟩ := h
      obtain ⟨e1, _⟩ := LIs.single (e : LIs β _ [v])
      simp at e1
      exact ⟨⟨none, 0⟩, ⟨Nat.le_refl _, fun _ => rfl, fun a ha => (by cases ha)⟩, e1⟩
    · cases h

/-- Bytes that a call leaves. -/
structure Bz where
  l : List UInt8

/-- A slice of new memory with these bytes. -/
def HasFresh (W : World) (n : Nat) (l : List UInt8) (v : Value) : Prop :=
  (l = [] ∧ v = .slice none 0 0) ∨ ∃ a c, v = .slice (some a) l.length c ∧ l.length ≤ c ∧ ∀ i, i < l.length → W.cell? (a.add i) = some (.int .u8 (l.getD i 0).toNat) ∧ n ≤ (a.add i).block

def bzParse (m : Mem (At B)) : TV (At B) → Option (Bz × List Prop)
  | .val false [.s i off n c] =>
    match nth m i with
    | some (some blk) =>
      match wideOf blk.cells off with
      | some x => (match blk.ro with | false => some (⟨(List.range n).map fun j => u8of ((Atom.get x j).getD Atom.dummy)⟩, [n = Atom.size x, n ≤ c]) | true => none)
      | none =>
      match blk.ro, cut blk.cells off n with
      | false, some l =>
        match bytesL (flat l) with
        | some r => if n ≤ c then some (⟨r⟩, []) else none
        | none => none
      | _, _ => none
    | _ => none
  | .val false [.kn f i n 1] => some (⟨(List.range n).map fun j => u8of (f (i + j))⟩, [∀ j, j < n → isU8 (f (i + j)) = true])
  | .val false [.v (.slice none 0 0)] => some (⟨[]⟩, [])
  | _ => none

instance : Ret (At B) Bz where
  tv x := .val false [.kn (byteAt x.l) 0 x.l.length 1]
  good W n x v := HasFresh W n x.l v
  is := by
    intro W n x v h
    rcases h with ⟨h1, rfl⟩ | ⟨a, c, rfl, h1, h2⟩
    · exact ⟨fun _ _ => False, fun _ _ h => h.elim, fun β => LIs.of_single (.inl ⟨by rw [h1]; rfl, rfl⟩)⟩
    · refine ⟨fun a' u => ∃ i, i < x.l.length ∧ a' = a.add i ∧ u = .int .u8 (x.l.getD i 0).toNat, ?_, fun β => LIs.of_single (.inr ⟨a, c, rfl, h1, fun j hj => ⟨_, .inr ⟨j, by omega, rfl, rfl⟩, ?_⟩⟩)⟩
      · rintro a' u ⟨i, hi, rfl, rfl⟩
        exact h2 i hi
      · rw [Nat.zero_add]; rfl
  parse m t := bzParse m (asKn t)
  ok := by
    intro c W0 W β m t0 x vc v h hvc hm e
    replace e := asKn_is e
    revert h e
    generalize asKn t0 = t
    intro h e
    unfold bzParse at h
    split at h
    · rename_i i off n cp
      split at h
      · rename_i blk hb
        split at h
        · rename_i x hwd
          split at h
          · rename_i hro
            simp only [Option.some.injEq, Prod.mk.injEq] at h
            obtain ⟨rfl, rfl⟩ := h
            have hn : n = Atom.size x := hvc _ (by simp)
            have hcp : n ≤ cp := hvc (n ≤ cp) (by simp)
            obtain ⟨b, hb1, e2⟩ := LIs.single (e : LIs β _ [v])
            simp at e2
            obtain ⟨b', vs, fz, hb2, hvs, hheap, hfr⟩ := hm.mem' hb hb1
            have : b' = b := by rw [hb1] at hb2; exact (Option.some.inj hb2).symm
            subst this
            obtain ⟨rfl, hcs⟩ := wideOf_is hwd
            obtain ⟨k, f, rfl⟩ := wide_z8 hwd
            obtain rfl : n = k := hn
            have hvx : vs = At.cells (.z8 n f) := hcs hvs
            refine .inr ⟨⟨b', 0, none⟩, cp, by simpa using e2, by simpa using hcp, fun j hj => ⟨?_, ?_⟩⟩
            · simp at hj
              rw [add_none, cell_of_row W b' (0 + j) _ _ fz hheap, Nat.zero_add, hvx]
              simp [At.cells, hj, List.getD_eq_getElem?_getD]
              rfl
            · rw [add_none]
              exact (hfr hro).2.resolve_right id
          · cases h
        split at h
        · rename_i l hro hl
          split at h
          · rename_i r hr
            split at h
            · rename_i hn
              simp at h
              obtain ⟨rfl, rfl⟩ := h
              obtain ⟨b, hb1, e2⟩ := LIs.single (e : LIs β _ [v])
              simp at e2
              obtain ⟨b', vs, fz, hb2, hvs, hheap, hfr⟩ := hm.mem' hb hb1
              have : b' = b := by rw [hb1] at hb2; exact (Option.some.inj hb2).symm
              subst this
              obtain ⟨h1, h2⟩ := cut_is hvs hl
              have h3 := bytesL_is (flat_is h1) hr
              have hlen : r.length = n := by
                have := congrArg List.length h3
                simp at this
                omega
              refine .inr ⟨⟨b', off, none⟩, cp, by rw [e2, hlen], by simpa [hlen] using hn, fun j hj => ⟨?_, ?_⟩⟩
              · rw [add_none, cell_of_row W b' (off + j) _ _ fz hheap]
                simp only at hj
                have h4 : ((vs.drop off).take n)[j]? = some (.int .u8 (r.getD j 0).toNat) := by
                  rw [h3, List.getElem?_map, List.getD_eq_getElem?_getD]
                  rw [List.getElem?_eq_getElem hj]
                  rfl
                rw [List.getElem?_take, if_pos (by omega), List.getElem?_drop] at h4
                simpa using h4
              · rw [add_none]
                exact (hfr hro).2.resolve_right id
            · cases h
          · cases h
        · cases h
      · cases h
    · rename_i f i n
      simp at h
      obtain ⟨rfl, rfl⟩ := h
      have e1 : knownIs β f i n 1 [v] := LIs.single (e : LIs β _ [v])
      rcases e1 with ⟨rfl, e2⟩ | ⟨p, cp, e2, hn, hk⟩
      · simp at e2
        exact .inl ⟨rfl, e2⟩
      · simp at e2
        refine .inr ⟨p, cp, by simpa using e2, by simpa using hn, fun j hj => ?_⟩
        simp at hj
        obtain ⟨u, k1, k2⟩ := hk j (by omega)
        obtain ⟨k3, k4, _⟩ := hm.kn _ _ k1
        exact ⟨by rw [k3, isU8_cell (hvc (∀ j, j < n → isU8 (f (i + j)) = true) (by simp) j hj) k2, getD_range _ n j hj], k4.resolve_right id⟩
    · simp at h
      obtain ⟨rfl, rfl⟩ := h
      obtain ⟨e1, _⟩ := LIs.single (e : LIs β _ [v])
      simp at e1
      exact .inl ⟨rfl, e1⟩
    · cases h

/-- Bytes of an argument are read. -/
theorem reads_bytes {W : World} {l : List UInt8} {g : Spot} (h : HasBytes W l g) {i n : Nat} (hi : i + n ≤ l.length) : Reads W.cell? g.a (byteAt (B := B) l) i n := by
  intro b hb j hj
  exact ⟨_, h.2.2 b hb (i + j) (by omega), rfl⟩

omit [Big B] in
theorem isU8_bytes (l : List UInt8) (i n : Nat) : ∀ j, j < n → isU8 (byteAt (B := B) l (i + j)) = true := fun _ _ => rfl

omit [Big B] in
/-- A part of bytes. -/
theorem bytes_part (l : List UInt8) {i n : Nat} (h : i + n ≤ l.length) : ((List.range n).map fun j => u8of (byteAt (B := B) l (i + j))) = (l.drop i).take n := by
  apply List.ext_getElem
  · simp; omega
  · intro j h1 h2
    simp at h1
    simp [u8of, byteAt, List.getD_eq_getElem?_getD, List.getElem?_eq_getElem (show i + j < l.length by omega)]
end
end Go.Sh

/- Told loops, by their numbers; rounds, by runs. -/
namespace Go.Sh
open Go.RowKit

/-- What is asked of numbers, of places. -/
abbrev WrapI (z : Int) : Prop := IntKind.i64.wrap z = z
abbrev Idx (z : Int) (n : Nat) : Prop := 0 ≤ z ∧ z < n
theorem wrapI {z : Int} (h1 : -9223372036854775808 ≤ z) (h2 : z < 9223372036854775808) : WrapI z := by
  simp only [WrapI, IntKind.wrap, IntKind.bits, IntKind.signed]
  have e : (2 : Int) ^ 64 = 18446744073709551616 := by decide
  have e' : (2 : Int) ^ (64 - 1) = 9223372036854775808 := by decide
  simp only [e, e', Bool.true_and, decide_eq_true_eq]
  split <;> omega

section
variable {A : Type}

/-- Slots i .. i + n - 1: those of a list (in order), the others forgotten. -/
def slots : Nat → Nat → List (Nat × TV A) → List (TV A)
  | _, 0, _ => []
  | i, n + 1, l =>
    match l with
    | (j, v) :: r => match Nat.beq i j with | true => v :: slots (i + 1) n r | false => .any :: slots (i + 1) n l
    | [] => .any :: slots (i + 1) n []

/-- Are two rows as long as one another? -/
def sameLen {α : Type} : List α → List α → Bool
  | [], [] => true
  | _ :: l, _ :: r => sameLen l r
  | _, _ => false
theorem sameLen_eq {α : Type} : ∀ {l r : List α}, sameLen l r = true → l.length = r.length
  | [], [], _ => rfl
  | _ :: l, _ :: r, h => congrArg (· + 1) (sameLen_eq (l := l) (r := r) h)
  | [], _ :: _, h => by cases h
  | _ :: _, [], h => by cases h

/-- Has a loop this number? -/
def hasNo (id : Nat) (x : Code) : Bool :=
  match firstRegion x with
  | some i => Nat.beq i id
  | none => false

def findNo (id : Nat) : List Code → Code
  | [] => .skip
  | x :: l => match hasNo id x with | true => x | false => findNo id l

/-- The body of a loop. -/
def bodyOf : Code → Code
  | .loop x => x
  | x => x

/-- The body of the loop of this number in a function. -/
def loopNo (fn : Func) (id : Nat) : Code :=
  match fn.body with
  | some x => bodyOf (findNo id (loopsOf x))
  | none => .skip

/-- The body of the loop over a function, of this number, in a function. -/
def rangeNo (fn : Func) (id : Nat) : Code :=
  match fn.body with
  | some x => (match findNo id (loopsOf x) with | .rangeFunc _ _ _ y => y | y => y)
  | none => .skip

/-- Told loops. -/
def lps : List (Nat × St A × Ex × St A) → Nat → Option (St A × Ex × St A)
  | [], _ => none
  | (j, x) :: l, i => match Nat.beq i j with | true => some x | false => lps l i
end

section
variable {A : Type} [Atom A]

/-- What a told loop asks of the state ahead of it, where that is what it is told to be. -/
def ToldIs (pre : St A) : Prop := (pre.t, pre.m, pre.m.length, pre.pd) = (pre.t, pre.m, pre.m.length, pre.pd)
omit [Atom A] in
theorem toldIs (pre : St A) : ToldIs pre := rfl

/-- What a told loop does, whatever else the settings are. -/
def SoundFor (P : Program) (old : Addr → Option Value) (ys : List (Ys A)) (y : Code) (pre : St A) (e : Ex) (post : St A) : Prop :=
  ∀ c : Cfg A, c.P = P → c.gl = (fun _ => none) → c.old = old → c.ys = ys → SoundAt c y pre e post

theorem SoundAt.like {c c' : Cfg A} (h : Like c c') {y : Code} {pre : St A} {e : Ex} {post : St A} (hs : SoundAt c y pre e post) : SoundAt c' y pre e post := by
  intro r n X W0 Q β a W hrnd hr hQ
  rw [h.P]
  exact hs r n X W0 Q β a W hrnd (hr.like h.symm) (fun β' a' W' hle hr' => hQ β' a' W' hle (hr'.like h))

theorem LoopsFor.nil {P : Program} {old : Addr → Option Value} {ys : List (Ys A)} {x : Code} : LoopsFor P old ys (lps []) x :=
  fun c _ _ _ _ hlp _ _ i pre e post _ h => by rw [hlp] at h; cases h

def filterNo (id : Nat) : List Code → List Code
  | [] => []
  | x :: l => match hasNo id x with | true => x :: filterNo id l | false => filterNo id l

theorem filterNo_mem {id : Nat} {x : Code} : ∀ {l : List Code}, x ∈ l → firstRegion x = some id → x ∈ filterNo id l
  | z :: l, hz, e => by
    unfold filterNo
    rcases List.mem_cons.1 hz with rfl | hz
    · have h2 : hasNo id x = true := by simp [hasNo, e]
      rw [h2]
      simp
    · have := filterNo_mem hz e
      split
      · exact List.mem_cons_of_mem _ this
      · exact this
  | [], h, _ => by cases h

theorem LoopsFor.cons {P : Program} {old : Addr → Option Value} {ys : List (Ys A)} {x y : Code} {id : Nat} {pre post : St A} {e : Ex} {l : List (Nat × St A × Ex × St A)} (hy : filterNo id (loopsOf x) = [y]) (hs : SoundFor P old ys y pre e post)
    (h : LoopsFor P old ys (lps l) x) : LoopsFor P old ys (lps ((id, pre, e, post) :: l)) x := by
  intro c e1 e2 e3 e4 e5 z hz i pre' e' post' hi hlp
  rw [e5] at hlp
  unfold lps at hlp
  split at hlp
  · rename_i hb
    have := Nat.eq_of_beq_eq_true hb
    subst this
    obtain ⟨rfl, rfl, rfl⟩ : pre = pre' ∧ e = e' ∧ post = post' := by
      have := Option.some.inj hlp
      simp only [Prod.mk.injEq] at this
      exact this
    have hm := filterNo_mem hz hi
    rw [hy] at hm
    rw [List.mem_singleton.1 hm]
    exact hs c e1 e2 e3 e4
  · exact SoundAt.like (c := { c with lp := lps l }) (c' := c) ⟨rfl, rfl, rfl, rfl⟩ (h { c with lp := lps l } e1 e2 e3 e4 rfl z hz i pre' e' post' hi hlp)

/-- A round, by a run. -/
theorem Round.of {P : Program} {tbl : List (Row A)} (ht : TblOK P tbl) {its : List (IRow A)} (hi : ITblOK P its) (orc : Nat → Nat → Dec) {old : Addr → Option Value} (lp : Nat → Option (St A × Ex × St A)) {ys : List (Ys A)} {yf : YF A} (hy : YFOK P old ys yf) (fuel : Nat)
    {x : Code} {s s' : St A} {e : Ex} (vc : List Prop) (hl : LoopsFor P old ys lp x)
    (h : (exec (cfgW P tbl its orc old lp ys yf) fuel x ⟨s.t, s.m, 0, [], s.pd⟩).map (fun q => (q.1, maskT s'.t q.2.t, maskM s'.m q.2.m, q.2.pd, q.2.vc)) = some (e, s'.t, s'.m, s'.pd, vc)) (hvc : All vc)
    (hlow : (lowSt s' && (ys.all fun z => lowTs s'.m.length z.t)) = true) (hlen : sameLen s'.m s.m = true) {c : Cfg A} (e1 : c.P = P) (e2 : c.gl = (fun _ => none)) (e3 : c.old = old) (e4 : c.ys = ys) : Round c x s e s' := by
  refine ⟨cfgW P tbl its orc old lp ys yf, fuel, s'.t, s'.m, vc, ⟨e1.symm, e2.symm, e3.symm, e4.symm⟩, cfgOK ht hi orc lp hy, hl _ rfl rfl rfl rfl rfl, h, hvc.mem, rfl, rfl, by rw [e4]; exact hlow, sameLen_eq hlen⟩

/-- The same outside of loops over functions. -/
theorem Round.of0 {P : Program} {tbl : List (Row A)} (ht : TblOK P tbl) (orc : Nat → Nat → Dec) {old : Addr → Option Value} (fuel : Nat)
    {x : Code} {s s' : St A} {e : Ex} (vc : List Prop)
    (h : (exec (cfgW P tbl [] orc old noLoop [] noYield) fuel x ⟨s.t, s.m, 0, [], s.pd⟩).map (fun q => (q.1, maskT s'.t q.2.t, maskM s'.m q.2.m, q.2.pd, q.2.vc)) = some (e, s'.t, s'.m, s'.pd, vc)) (hvc : All vc)
    (hlow : (lowSt s' && true) = true) (hlen : sameLen s'.m s.m = true) {c : Cfg A} (e1 : c.P = P) (e2 : c.gl = (fun _ => none)) (e3 : c.old = old) (e4 : c.ys = []) : Round c x s e s' :=
  Round.of ht (ITblOK.nil P) orc noLoop (YFOK.none P old) fuel vc loopsFor_none h hvc hlow hlen e1 e2 e3 e4
end
end Go.Sh

/- Contracts by runs whose tables hang on the arguments. -/
namespace Go.Sh
open Go.RowKit
section
variable {A : Type} [Atom A]

/-- A contract by runs: the tables, too, may hang on the arguments. -/
theorem computes_of_runT {P : Program} {Γ R : Type} [Args A Γ] [Ret A R] {g : FuncId} {fn : Func} {f : Γ → R} (hf : P.funcs[g]? = some fn)
    (hn : (fn.name == "runtime.NumGoroutine") = false) (hb : fn.body.isNone = false) (fuel : Nat)
    (h : ∀ (gh : Args.G A Γ) (x : Γ) (W : World), Args.good W gh x → ∃ (tbl : List (Row A)) (its : List (IRow A)), TblOK P tbl ∧ ITblOK P its ∧ ∃ orc lp y vc, (run (cfgW P tbl its orc W.cell? lp [] noYield) fuel fn (Args.tvs gh x) []).map retOf = some (some y, vc) ∧ All vc ∧ y = f x ∧
      ∀ body, fn.body = some body → LoopsFor P W.cell? [] lp body) : Computes A P g f := by
  intro gh x W hg
  obtain ⟨tbl, its, ht, hi, orc, lp, y, vc, h1, h2, h3, h4⟩ := h gh x W hg
  refine .inr ⟨callFunc_enter hf hn hb _ W, ?_⟩
  cases hr : run (cfgW P tbl its orc W.cell? lp [] noYield) fuel fn (Args.tvs gh x) [] with
  | none => rw [hr] at h1; cases h1
  | some z =>
    obtain ⟨res, m', vc'⟩ := z
    rw [hr] at h1
    obtain ⟨v1, h5, rfl⟩ := retOf_some (Option.some.inj h1)
    have h2' := h2.mem
    have := run_sound (cfgOK0 ht hi orc W.cell? lp) rfl (c := cfgW P tbl its orc W.cell? lp [] noYield) hf (fun body hbd => h4 body hbd _ rfl rfl rfl rfl rfl) hr (fun p hp => h2' p (List.mem_append_right _ hp)) (X := fun _ => False) (W0 := W) (W := W) (β := Adr.nil) (mrel_nil _ W rfl rfl) (fun _ _ => ⟨rfl, fun _ => rfl⟩) (Args.is _ hg)
    refine this.mono ?_
    rintro e W' ⟨v, rfl, β', _, hv, hm', _⟩
    exact ⟨v, rfl, by rw [← h3]; exact Ret.ok h5 (fun p hp => h2' p (List.mem_append_left _ hp)) hm' hv, hm'.ext⟩

/-- The same without told loops. -/
theorem computes_of_runT0 {P : Program} {Γ R : Type} [Args A Γ] [Ret A R] {g : FuncId} {fn : Func} {f : Γ → R} (hf : P.funcs[g]? = some fn)
    (hn : (fn.name == "runtime.NumGoroutine") = false) (hb : fn.body.isNone = false) (fuel : Nat)
    (h : ∀ (gh : Args.G A Γ) (x : Γ) (W : World), Args.good W gh x → ∃ tbl, TblOK P tbl ∧ ∃ orc y vc, (run (cfg P tbl orc W.cell?) fuel fn (Args.tvs gh x) []).map retOf = some (some y, vc) ∧ All vc ∧ y = f x) : Computes A P g f :=
  computes_of_runT hf hn hb fuel (fun gh x W hg => by
    obtain ⟨tbl, ht, orc, y, vc, h1, h2, h3⟩ := h gh x W hg
    exact ⟨tbl, [], ht, ITblOK.nil P, orc, noLoop, y, vc, h1, h2, h3, fun body _ => loopsFor_none⟩)
end
end Go.Sh

/- From a contract to a statement: a law that always answers yes and turns no memory; arguments without addresses, opened. -/
namespace Go.Sh
open Go.ChangeShapes Go.ChangeAt Go.WideShapes Go.RowKit

section
variable {H : Type} {enc : TypeId × Value → H}

theorem trodAll_stays {P : Program} {W W' : World} {sp : Nat → Bool} (hl : laidOutB P = true) (hb : Below W.heap.size W W') :
    ∀ (ts : List TypeId) (vs : List Value) (ds : List (DataW H)) (ps : List MemPlace), (∀ t ∈ ts, P.readableRec t = true ∧ t < P.types.size) → (∀ x ∈ ps, x.block < W.heap.size) → (∀ x ∈ ps, sp x.block = true) →
      DataW.TrodAll enc P W 0 (fun _ => true) true ts vs ds ps → DataW.TrodAll enc P W' 0 sp true ts vs ds ps
  | [], [], [], _, _, _, _, h => h
  | t :: ts, v :: vs, d :: ds, _, hr, hlt, hsp, ⟨p, q, h1, h2, e⟩ => by
    subst e
    have hr1 := hr t (by simp)
    exact ⟨p, q, WideElems.Trod_stays hl hr1.1 hr1.2 h1 (fun x hx => hb.same (hlt x (by simp [hx]))) (fun x hx => hsp x (by simp [hx])),
      trodAll_stays hl hb ts vs ds q (fun t ht => hr t (by simp [ht])) (fun x hx => hlt x (by simp [hx])) (fun x hx => hsp x (by simp [hx])) h2, rfl⟩
  | [], _ :: _, _, _, _, _, _, h => h.elim
  | [], [], _ :: _, _, _, _, _, h => h.elim
  | _ :: _, [], _, _, _, _, _, h => h.elim
  | _ :: _, _ :: _, [], _, _, _, _, h => h.elim

/-- What a call that answers yes and turns nothing old leaves is what a law's statement says. -/
theorem post_of_below {P : Program} {f : Func} {s : ChangeSpec} {apart fresh handsOn again : Bool} {W W' : World} {args : Array Value} {ds gs : List (DataW H)} {before : List MemPlace} {tb : TypeId}
    (hl : laidOutB P = true) (hr : ∀ t ∈ f.params.toList, P.readableRec t = true ∧ t < P.types.size) (hv : s.vars = []) (hs : s.fn H ds = { results := [.lit (.bool true)], args := ds })
    (hrt : f.resultTypes = #[tb]) (htb : P.underlying tb = some .bool)
    (hW : DataW.Whole enc P f.params.toList s.vars apart W args.toList ds gs before) (hb : Below W.heap.size W W') :
    s.post enc P f apart fresh handsOn again W args (.bool true) W' := by
  obtain ⟨p, q, hA, hV, e, hz, hn⟩ := id hW
  subst e
  rw [hv] at hV
  obtain ⟨rfl, rfl⟩ := trodVars_none hV
  simp only [List.append_nil] at hW hz hn
  have hlt : ∀ x ∈ p, x.block < W.heap.size := fun x hx => by simpa using hW.lt x hx
  have hargs : ∀ sp : Nat → Bool, (∀ x ∈ p, sp x.block = true) → DataW.TrodAll enc P W' 0 sp true f.params.toList args.toList (s.fn H (ds ++ [])).args p := by
    intro sp hsp
    rw [List.append_nil, hs]
    exact trodAll_stays hl hb _ _ _ _ hr hlt hsp hA
  have hres : ∀ (b : Nat) (sp : Nat → Bool) (hd : Bool), DataW.TrodAll enc P W' b sp hd f.resultTypes.toList ((Value.bool true).resultList f.resultTypes.size) (s.fn H (ds ++ [])).results [] := by
    intro b sp hd
    rw [List.append_nil, hs, hrt]
    exact trodAll_mk1 (shut_bool htb true)
  have hvars : ∀ sp : Nat → Bool, DataW.TrodVars enc P W' sp s.vars (s.fn H (ds ++ [])).vars [] := by
    intro sp
    rw [List.append_nil, hs, hv]
    exact rfl
  refine ⟨ds, [], p, [], p, [], hW, hres _ _ _, hargs _ (fun x hx => by simpa using hlt x hx), hvars _, hb.frame _, fun _ => ?_⟩
  refine ⟨ok_one hrt rfl (okWide_bool_mk htb true), _, _, ([] ++ p) ++ [], ⟨[] ++ p, [], trodAll_append (hargs _ (fun _ _ => rfl)) (hres _ _ _), hvars _, rfl, ?_, ?_⟩, ?_⟩
  · intro b off hp
    simp only [List.nil_append, List.append_nil] at hp
    rw [hb.frozen (hlt _ hp)]
    exact hz b off hp
  · intro ha
    simpa using hn ha
  · intro x hx _
    simpa using hx

/-- A law's statement out of what its call does. -/
theorem law_returns {C : Checked} {os : Os} {f : FuncId} {fn : Func} {s : ChangeSpec} {apart fresh handsOn again : Bool} {tb : TypeId} (started : os.Started) (hfn : C.prog.funcs[f]? = some fn)
    (own : ownKnob C.prog.godebug = none) (noInit : C.prog.inits.idxOf? f = none) (hl : laidOutB C.prog = true)
    (hr : fn.params.toList.all (fun t => C.prog.readableRec t && decide (t < C.prog.types.size)) = true) (hv : s.vars = []) (hrt : fn.resultTypes = #[tb]) (htb : C.prog.underlying tb = some .bool)
    (hs : ∀ ds : List (DataW H), ds.length = fn.params.size → s.fn H ds = { results := [.lit (.bool true)], args := ds })
    (witness : ∃ (w : World) (tape : Tape) (i : Input), w.os = os ∧ (w.forCall tape i).Shaped C.prog ∧ i.vars = [] ∧ Input.okWide C.prog (w.forCall tape i) .any w.heap.size f i ∧
      s.pre6 enc C.prog fn [] apart (w.forCall tape i).memory i.args ∧ ({} : Assume).holds C.prog (lone (Frame.enter C.prog f i.args .normal) [] (w.forCall tape i)))
    (h : ∀ (W : World) (base : Nat) (args : Array Value) (ds : List (DataW H)) (ps : List MemPlace), (∀ (j : Nat) t v, fn.params.toList[j]? = some t → args.toList[j]? = some v → Value.okWide C.prog W .any base t v) →
      DataW.TrodAll enc C.prog W 0 (fun _ => true) true fn.params.toList args.toList ds ps → Calls C.prog f args W fun e W' => e = .returned (.bool true) ∧ Below W.heap.size W W') :
    ReturnsInHanded {} C os f .any (s.pre6 enc C.prog fn [] apart) (s.post enc C.prog fn apart fresh handsOn again) := by
  have trodLen : ∀ (ts : List TypeId) (vs : List Value) (ds : List (DataW H)) (ps : List MemPlace) (W : World), DataW.TrodAll enc C.prog W 0 (fun _ => true) true ts vs ds ps → ds.length = ts.length := by
    intro ts
    induction ts with
    | nil =>
      intro vs ds ps W h
      match vs, ds, h with
      | [], [], _ => rfl
    | cons t ts ih =>
      intro vs ds ps W h
      match vs, ds, h with
      | v :: vs, d :: ds, ⟨p, q, _, h2, _⟩ => simp [ih vs ds q W h2]
  refine returnsInHanded_of_change (C := C) own started noInit hfn witness ?_
  intro W base args ds gs before hval hW _ _
  have hA := hW
  obtain ⟨p, q, hA, _, _, _, _⟩ := hA
  have hlen := trodLen _ _ _ _ _ hA
  refine (h W base args ds p (fun j t v h1 h2 => hval j t v (by simpa using h1) (by simpa using h2)) hA).mono ?_
  rintro e W' ⟨rfl, hb⟩
  refine ⟨_, rfl, post_of_below hl ?_ hv (hs ds (by rw [hlen]; simp)) hrt htb hW hb⟩
  intro t ht
  have := List.all_eq_true.1 hr t ht
  simpa using this
end

/-! ### Arguments without addresses -/

inductive Kd where
  | bool
  | int (k : IntKind)

def Kd.fits : Kd → Value → Prop
  | .bool, v => ∃ b, v = .bool b
  | .int k, v => ∃ z, v = .int k z ∧ (Lit.int k z).wf = true

def Fits : List Kd → List Value → Prop
  | [], [] => True
  | k :: ks, v :: vs => k.fits v ∧ Fits ks vs
  | _, _ => False

theorem Fits.len : ∀ {ks : List Kd} {vs : List Value}, Fits ks vs → vs.length = ks.length
  | [], [], _ => rfl
  | _ :: _, _ :: _, h => by simp [Fits.len h.2]
  | [], _ :: _, h => h.elim
  | _ :: _, [], h => h.elim

theorem Fits.append : ∀ {a b : List Kd} {x y : List Value}, Fits a x → Fits b y → Fits (a ++ b) (x ++ y)
  | [], _, [], _, _, h => h
  | _ :: _, _, _ :: _, _, h, h' => ⟨h.1, Fits.append h.2 h'⟩
  | [], _, _ :: _, _, h, _ => h.elim
  | _ :: _, _, [], _, h, _ => h.elim

theorem Fits.split : ∀ {a b : List Kd} {v : List Value}, Fits (a ++ b) v → ∃ x y, v = x ++ y ∧ Fits a x ∧ Fits b y
  | [], _, v, h => ⟨[], v, rfl, trivial, h⟩
  | _ :: _, _, v :: vs, h => by
    obtain ⟨x, y, e, h1, h2⟩ := Fits.split h.2
    exact ⟨v :: x, y, by rw [e]; rfl, ⟨h.1, h1⟩, h2⟩
  | _ :: _, _, [], h => h.elim

def kindsF (P : Program) (kf : TypeId → Option (List Kd)) : Nat → List Field → Option (List Kd)
  | _, [] => some []
  | off, f :: fs =>
    match kf f.type, kindsF P kf (off + P.cellsOf f.type) fs with
    | some a, some b => if f.offset = off ∧ a.length = P.cellsOf f.type then some (a ++ b) else none
    | _, _ => none

/-- The kinds of a type's cells, where it holds no address. -/
def kinds (P : Program) : Nat → TypeId → Option (List Kd)
  | 0, _ => none
  | n + 1, t =>
    match P.underlying t with
    | some .bool => some [.bool]
    | some (.int k) => some [.int k]
    | some (.struct fs) =>
      match kindsF P (kinds P n) 0 fs.toList with
      | some ks => if ks.length = P.cellsOf t then some ks else none
      | none => none
    | some (.array m e) =>
      match kinds P n e with
      | some ks => if ks.length = P.cellsOf e ∧ P.cellsOf t = m * P.cellsOf e then some (List.replicate m ks).flatten else none
      | none => none
    | _ => none

section
variable {H : Type} {enc : TypeId × Value → H} {P : Program} {w : World} {base : Nat} {spare : Nat → Bool} {held : Bool}

theorem kindsF_fits {kf : TypeId → Option (List Kd)} {m : Nat} (hkf : ∀ t ks, kf t = some ks → ∀ cs (x : DataW H × List MemPlace), DataW.trod enc P w base spare held m t cs = some x → Fits ks cs) {cs : List Value} :
    ∀ (fs : List Field) (off : Nat) (ks : List Kd), kindsF P kf off fs = some ks → (∀ f ∈ fs, ∃ x, DataW.trod enc P w base spare held m f.type ((cs.drop f.offset).take (P.cellsOf f.type)) = some x) → Fits ks ((cs.drop off).take ks.length)
  | [], off, ks, h, _ => by simp [kindsF] at h; subst h; simp [Fits]
  | f :: fs, off, ks, h, hx => by
    simp only [kindsF] at h
    split at h
    · rename_i a b ha hb
      split at h
      · rename_i hc
        simp at h; subst h
        obtain ⟨x, hx1⟩ := hx f (by simp)
        have h1 := hkf _ _ ha _ _ hx1
        have h2 := kindsF_fits hkf fs _ _ hb (fun g hg => hx g (by simp [hg]))
        rw [hc.1] at h1
        have : (cs.drop off).take (a ++ b).length = (cs.drop off).take (P.cellsOf f.type) ++ (cs.drop (off + P.cellsOf f.type)).take b.length := by
          rw [List.length_append, hc.2, List.take_add, List.drop_drop]
        rw [this]
        exact h1.append h2
      · cases h
    · cases h

theorem array_fits {c : Nat} {ks : List Kd} (hk : ks.length = c) : ∀ (m : Nat) (cs : List Value), cs.length = m * c → (∀ i, i < m → Fits ks ((cs.drop (i * c)).take c)) → Fits (List.replicate m ks).flatten cs
  | 0, cs, h, _ => by
    have : cs = [] := by simpa using h
    subst this; trivial
  | m + 1, cs, h, hf => by
    have h0 := hf 0 (by omega)
    have h1 := array_fits hk m (cs.drop c) (by rw [List.length_drop, h, Nat.succ_mul]; omega) (fun i hi => by
      have := hf (i + 1) (by omega)
      rw [List.drop_drop]
      rw [Nat.succ_mul, Nat.add_comm] at this
      exact this)
    have e : cs = cs.take c ++ cs.drop c := (List.take_append_drop _ _).symm
    rw [e, List.replicate_succ, List.flatten_cons]
    simp only [Nat.zero_mul, List.drop_zero] at h0
    exact h0.append h1

theorem kinds_fits : ∀ (n : Nat) (t : TypeId) (ks : List Kd), kinds P n t = some ks → ∀ (fuel : Nat) (cs : List Value) (x : DataW H × List MemPlace), DataW.trod enc P w base spare held fuel t cs = some x → Fits ks cs
  | 0, _, _, h => by simp [kinds] at h
  | n + 1, t, ks, h => by
    intro fuel cs x hx
    unfold kinds at h
    split at h
    · rename_i ht
      simp at h; subst h
      obtain ⟨b, rfl, _⟩ := DataW.trod_bool ht hx
      exact ⟨⟨b, rfl⟩, trivial⟩
    · rename_i k ht
      simp at h; subst h
      obtain ⟨z, rfl, _, hw⟩ := DataW.trod_int ht hx
      exact ⟨⟨z, rfl, hw⟩, trivial⟩
    · rename_i fs ht
      split at h
      · rename_i l hl
        split at h
        · rename_i hc
          simp at h; subst h
          obtain ⟨xs, m, _, _, hlen, hsz, hf⟩ := DataW.trod_struct ht hx
          have := kindsF_fits (cs := cs) (fun t ks hk => kinds_fits n t ks hk m) fs.toList 0 _ hl (fun f hf' => by
            obtain ⟨i, hi, e⟩ := List.getElem_of_mem hf'
            have hi' : i < xs.length := by rw [hsz]; simpa using hi
            exact ⟨xs[i], by rw [hf i f (by rw [← e]; simp at hi; simp [hi])]; simp [hi']⟩)
          rw [List.drop_zero, hc, ← hlen, List.take_length] at this
          exact this
        · cases h
      · cases h
    · rename_i m e ht
      split at h
      · rename_i l hl
        split at h
        · rename_i hc
          simp at h; subst h
          obtain ⟨xs, k, _, _, hlen, hsz, hf⟩ := DataW.trod_array ht hx
          exact array_fits hc.1 m cs (by rw [hlen, hc.2]) (fun i hi => kinds_fits n e l hl k _ _ ((hf i hi).trans (by rw [List.getElem?_eq_getElem (by omega)])))
        · cases h
      · cases h
    · cases h

def isAgg (P : Program) (t : TypeId) : Bool :=
  match P.underlying t with
  | some (.struct _) | some (.array _ _) => true
  | _ => false

def kindsA (P : Program) (n : Nat) (t : TypeId) : Option (Bool × List Kd) := (kinds P n t).map fun ks => (isAgg P t, ks)

def FitsV : Bool × List Kd → Value → Prop
  | (true, ks), v => ∃ cs, v = .agg cs ∧ Fits ks cs.toList
  | (false, ks), v => Fits ks [v]

theorem kindsA_fits {n : Nat} {t : TypeId} {k : Bool × List Kd} (h : kindsA P n t = some k) {r : Reach} {b0 : Nat} {v : Value} {d : DataW H} {p : List MemPlace} (hv : Value.okWide P w r b0 t v)
    (hx : DataW.Trod enc P w base spare held t v d p) : FitsV k v := by
  unfold kindsA at h
  cases hk : kinds P n t with
  | none => rw [hk] at h; cases h
  | some ks =>
    rw [hk] at h
    simp at h; subst h
    obtain ⟨fuel, hx⟩ := hx
    have hf := kinds_fits n t ks hk fuel _ _ hx
    cases n with
    | zero => simp [kinds] at hk
    | succ n =>
      unfold isAgg
      split
      · rename_i fs ht
        obtain ⟨cs, rfl, _⟩ := okWide_struct ht hv
        exact ⟨cs, rfl, by simpa [Value.cells] using hf⟩
      · rename_i m e ht
        simp only [Value.okWide, ht] at hv
        obtain ⟨cs, rfl, _⟩ := hv
        exact ⟨cs, rfl, by simpa [Value.cells] using hf⟩
      · rename_i hns hna
        show Fits ks [v]
        unfold kinds at hk
        split at hk
        · rename_i ht
          obtain ⟨b, rfl⟩ := okWide_bool ht hv
          simpa [Value.cells] using hf
        · rename_i k ht
          obtain ⟨z, rfl⟩ : ∃ z, v = .int k z := by
            simp only [Value.okWide, ht, Cell.okWide] at hv
            cases v <;> simp_all [Cell.ok]
          simpa [Value.cells] using hf
        · rename_i fs ht; exact absurd ht (hns fs)
        · rename_i m e ht; exact absurd ht (hna m e)
        · cases hk

/-- A type's shape: cells without addresses; a slice of bytes. -/
inductive Shape where
  | flat (g : Bool) (ks : List Kd)
  | bytes
  | rows (n : Nat)
  | srow (n : Nat) (ks : List Kd)
  | sbool (ks : List Kd)

/-- A slice of rows of so many bytes? -/
def rowsOf (P : Program) (t : TypeId) : Option Nat :=
  match P.underlying t with
  | some (.slice e) =>
    match P.underlying e with
    | some (.array m b) =>
      match P.underlying b with
      | some (.int .u8) => if P.cellsOf b = 1 ∧ P.cellsOf e = m then some m else none
      | _ => none
    | _ => none
  | _ => none

/-- A slice of Bools? -/
def boolsOf (P : Program) (t : TypeId) : Bool :=
  match P.underlying t with
  | some (.slice e) =>
    match P.underlying e with
    | some .bool => Nat.beq (P.cellsOf e) 1
    | _ => false
  | _ => false
def shapeOf (P : Program) (n : Nat) (t : TypeId) : Option Shape :=
  match P.underlying t with
  | some (.slice e) =>
    match P.underlying e with
    | some (.int .u8) => if P.cellsOf e = 1 then some .bytes else none
    | some (.array m b) =>
      match P.underlying b with
      | some (.int .u8) => if P.cellsOf b = 1 ∧ P.cellsOf e = m then some (.rows m) else none
      | _ => none
    | _ => none
  | some (.struct fs) =>
    match kindsA P n t with
    | some (g, ks) => some (.flat g ks)
    | none =>
      match fs.toList with
      | [f, g] =>
        match rowsOf P f.type, kinds P n g.type with
        | some m, some ks => if f.offset = 0 ∧ P.cellsOf f.type = 1 ∧ g.offset = 1 ∧ ks.length = P.cellsOf g.type ∧ P.cellsOf t = 1 + ks.length then some (.srow m ks) else none
        | none, some ks => if boolsOf P f.type = true ∧ f.offset = 0 ∧ P.cellsOf f.type = 1 ∧ g.offset = 1 ∧ ks.length = P.cellsOf g.type ∧ P.cellsOf t = 1 + ks.length then some (.sbool ks) else none
        | _, _ => none
      | _ => none
  | _ => match kindsA P n t with | some (g, ks) => some (.flat g ks) | none => none

/-- A value of a shape, in a world. -/
def Shaped (W : World) : Shape → Value → Prop
  | .flat g ks, v => FitsV (g, ks) v
  | .bytes, v => ∃ l g, HasBytes W l g ∧ v = spotVal l.length g
  | .rows n, v => ∃ (f : Nat → UInt8) (k : Nat) (g : Spot), k ≤ g.c ∧ (g.a = none → g.c = 0) ∧ (∀ a, g.a = some a → ∀ i, i < k * n → W.cell? (a.add i) = some (.int .u8 (f i).toNat)) ∧ v = spotVal k g
  | .srow n ks, v => ∃ (f : Nat → UInt8) (k : Nat) (g : Spot) (cs : List Value), (k ≤ g.c ∧ (g.a = none → g.c = 0) ∧ (∀ a, g.a = some a → ∀ i, i < k * n → W.cell? (a.add i) = some (.int .u8 (f i).toNat))) ∧ Fits ks cs ∧ v = .agg (spotVal k g :: cs).toArray
  | .sbool ks, v => ∃ (l : List Bool) (g : Spot) (cs : List Value), (l.length ≤ g.c ∧ (g.a = none → g.c = 0) ∧ (∀ a, g.a = some a → ∀ i, i < l.length → W.cell? (a.add i) = some (.bool (l.getD i false)))) ∧ Fits ks cs ∧ v = .agg (spotVal l.length g :: cs).toArray

def u8OfCell : Option Value → UInt8
  | some (.int _ z) => UInt8.ofNat z.toNat
  | _ => 0

theorem fits_u8 : ∀ (m : Nat) (cs : List Value), Fits (List.replicate m [Kd.int .u8]).flatten cs → ∀ j, j < m → ∃ u : UInt8, cs[j]? = some (.int .u8 u.toNat)
  | m + 1, v :: vs, h, 0, _ => by
    rw [List.replicate_succ, List.flatten_cons] at h
    obtain ⟨⟨z, rfl, hw⟩, _⟩ := h
    have hw' : (0 : Int) ≤ z ∧ z ≤ 255 := by simpa [Lit.wf, IntKind.min, IntKind.max, IntKind.signed, IntKind.bits] using hw
    obtain ⟨k, hk⟩ := Int.eq_ofNat_of_zero_le hw'.1
    subst hk
    exact ⟨UInt8.ofNat k, by simp only [List.getElem?_cons_zero]; rw [UInt8.toNat_ofNat_of_lt' (show k < 256 by omega)]⟩
  | m + 1, v :: vs, h, j + 1, hj => by
    rw [List.replicate_succ, List.flatten_cons] at h
    obtain ⟨u, hu⟩ := fits_u8 m vs h.2 j (by omega)
    exact ⟨u, by simpa using hu⟩
  | m + 1, [], h, _, _ => by
    rw [List.replicate_succ, List.flatten_cons] at h
    exact h.elim
  | 0, _, _, j, hj => absurd hj (by omega)

theorem rows_fits {t : TypeId} {m : Nat} (h : rowsOf P t = some m) {fuel : Nat} {v : Value} {x : DataW H × List MemPlace} (hx : DataW.trod enc P w base spare held fuel t [v] = some x) :
    ∃ (f : Nat → UInt8) (k : Nat) (g : Spot), (k ≤ g.c ∧ (g.a = none → g.c = 0) ∧ (∀ a, g.a = some a → ∀ i, i < k * m → w.cell? (a.add i) = some (.int .u8 (f i).toNat))) ∧ v = spotVal k g := by
  unfold rowsOf at h
  split at h
  · rename_i e ht
    split at h
    · rename_i m' b he
      split at h
      · rename_i hb
        split at h
        · rename_i hc
          obtain ⟨hcb, hce⟩ := hc
          obtain rfl := Option.some.inj h
          rcases Go.Deep.open_slice ht hx with ⟨e1, _⟩ | ⟨a', len, cap, mm, nn, D, Pl, e1, _, hlc, _, hmm, _, hel⟩
          · simp at e1
            subst e1
            exact ⟨fun _ => 0, 0, ⟨none, 0⟩, ⟨Nat.le_refl _, fun _ => rfl, fun a ha => (by cases ha)⟩, rfl⟩
          · simp at e1
            subst e1
            have hlm : len ≤ mm := by rw [hmm]; split <;> omega
            refine ⟨fun j => u8OfCell (w.cell? (a'.add j)), len, ⟨some a', cap⟩, ⟨hlc, fun ha => (by cases ha), fun b0 hb0 i hi => ?_⟩, rfl⟩
            obtain rfl := Option.some.inj hb0
            have hm : 0 < m' := by
              rcases Nat.eq_zero_or_pos m' with h' | h'
              · subst h'; simp at hi
              · exact h'
            have hq : i / m' < len := (Nat.div_lt_iff_lt_mul hm).2 hi
            obtain ⟨cs', h1, h2⟩ := hel (i / m') (by omega)
            rw [hce] at h1
            obtain ⟨_, hlen, hcell⟩ := World.cells?_some h1
            have hr : i % m' < m' := Nat.mod_lt _ hm
            have h3 := hcell (i % m') hr
            have hsum : i / m' * m' + i % m' = i := by rw [Nat.mul_comm]; exact Nat.div_add_mod i m'
            rw [Addr.add_add, hsum] at h3
            have hk : kinds P 2 e = some (List.replicate m' [Kd.int .u8]).flatten := by
              unfold kinds
              simp only [he]
              have : kinds P 1 b = some [Kd.int .u8] := by unfold kinds; simp only [hb]
              rw [this]
              simp only [List.length_singleton, hcb, hce, Nat.mul_one, and_self, if_true]
            obtain ⟨u, hu⟩ := fits_u8 m' cs' (kinds_fits 2 e _ hk _ _ _ h2) (i % m') hr
            have e := h3.trans hu
            show w.cell? (a'.add i) = some (.int .u8 ((u8OfCell (w.cell? (a'.add i))).toNat : Int))
            rw [e]
            show some (Value.int .u8 (u.toNat : Int)) = some (.int .u8 ((UInt8.ofNat ((u.toNat : Int).toNat)).toNat : Int))
            rw [Int.toNat_natCast, UInt8.ofNat_toNat]
        · cases h
      · cases h
    · cases h
  · cases h

theorem bools_fits {t : TypeId} (h : boolsOf P t = true) {fuel : Nat} {v : Value} {x : DataW H × List MemPlace} (hx : DataW.trod enc P w base spare held fuel t [v] = some x) :
    ∃ (l : List Bool) (g : Spot), (l.length ≤ g.c ∧ (g.a = none → g.c = 0) ∧ (∀ a, g.a = some a → ∀ i, i < l.length → w.cell? (a.add i) = some (.bool (l.getD i false)))) ∧ v = spotVal l.length g := by
  unfold boolsOf at h
  split at h
  · rename_i e ht
    split at h
    · rename_i he
      have hce := Nat.eq_of_beq_eq_true h
      rcases Go.Deep.open_slice ht hx with ⟨e1, _⟩ | ⟨a', len, cap, mm, nn, D, Pl, e1, _, hlc, _, hmm, _, hel⟩
      · simp at e1
        subst e1
        exact ⟨[], ⟨none, 0⟩, ⟨Nat.le_refl _, fun _ => rfl, fun a ha => (by cases ha)⟩, rfl⟩
      · simp at e1
        subst e1
        have hlm : len ≤ mm := by rw [hmm]; split <;> omega
        have key : ∀ i, i < len → ∃ b, w.cell? (a'.add i) = some (.bool b) := by
          intro i hi
          obtain ⟨cs', h1, h2⟩ := hel i (by omega)
          rw [hce, Nat.mul_one] at h1
          obtain ⟨_, hlen, hcell⟩ := World.cells?_some h1
          have h3 := hcell 0 (by omega)
          have e0 : (a'.add i).add 0 = a'.add i := by rw [Addr.add_add, Nat.add_zero]
          rw [e0] at h3
          have hk : kinds P 1 e = some [Kd.bool] := by unfold kinds; simp only [he]
          have hf := kinds_fits 1 e _ hk _ _ _ h2
          match cs', hf with
          | v :: vs, ⟨⟨b, hb⟩, _⟩ => exact ⟨b, by rw [h3, hb]; rfl⟩
        refine ⟨(List.range len).map fun i => (match w.cell? (a'.add i) with | some (.bool b) => b | _ => false), ⟨some a', cap⟩, ⟨by simpa using hlc, fun ha => (by cases ha), fun b0 hb0 i hi => ?_⟩, by simp [spotVal]⟩
        obtain rfl := Option.some.inj hb0
        simp at hi
        obtain ⟨b, hb⟩ := key i hi
        rw [hb, List.getD_eq_getElem?_getD, List.getElem?_map, List.getElem?_range hi]
        simp [hb]
    · cases h
  · cases h

theorem shape_fits {n : Nat} {t : TypeId} {s : Shape} (h : shapeOf P n t = some s) {r : Reach} {b0 : Nat} {v : Value} {d : DataW H} {p : List MemPlace} (hv : Value.okWide P w r b0 t v)
    (hx : DataW.Trod enc P w base spare held t v d p) : Shaped w s v := by
  unfold shapeOf at h
  split at h
  · rename_i e ht
    split at h
    · rename_i he
      split at h
      · rename_i hc
        obtain rfl := Option.some.inj h
        obtain ⟨a, len, cap, rfl⟩ := okWide_slice ht hv
        obtain ⟨fuel, hx⟩ := hx
        rcases open_ints ht he hc hx with ⟨e1, _⟩ | ⟨a', len', cap', zs, e1, _, hlc, _, hzl, _, hcell, hwf⟩
        · simp [Value.cells] at e1
          obtain ⟨rfl, rfl, rfl⟩ := e1
          exact ⟨[], ⟨none, 0⟩, ⟨Nat.le_refl _, fun _ => rfl, fun a ha => (by cases ha)⟩, rfl⟩
        · simp [Value.cells] at e1
          obtain ⟨rfl, rfl, rfl⟩ := e1
          have hlz : len ≤ zs.length := by rw [hzl]; split <;> omega
          have hu : ∀ i, i < zs.length → ((UInt8.ofNat (zs.getD i 0).toNat).toNat : Int) = zs.getD i 0 := by
            intro i hi
            have hm : zs.getD i 0 ∈ zs := by rw [List.getD_eq_getElem?_getD, List.getElem?_eq_getElem hi]; exact List.getElem_mem hi
            have := hwf _ hm
            have hw : (0 : Int) ≤ zs.getD i 0 ∧ zs.getD i 0 ≤ 255 := by simpa [Lit.wf, IntKind.min, IntKind.max, IntKind.signed, IntKind.bits] using this
            obtain ⟨k, hk⟩ := Int.eq_ofNat_of_zero_le hw.1
            rw [hk] at hw ⊢
            rw [Int.toNat_natCast, UInt8.toNat_ofNat_of_lt' (show k < 256 by omega)]
          refine ⟨(zs.take len).map fun z => UInt8.ofNat z.toNat, ⟨some a', cap⟩, ⟨by simp; omega, fun ha => (by cases ha), fun b hb i hi => ?_⟩, ?_⟩
          · obtain rfl := Option.some.inj hb
            simp at hi
            rw [hcell i (by omega)]
            congr 2
            have e1 : ((zs.take len).map fun z => UInt8.ofNat z.toNat).getD i 0 = UInt8.ofNat (zs.getD i 0).toNat := by
              simp only [List.getD_eq_getElem?_getD, List.getElem?_map, List.getElem?_take, if_pos (show i < len by omega), List.getElem?_eq_getElem (show i < zs.length by omega), Option.map_some, Option.getD_some]
            exact ((congrArg (fun u : UInt8 => (u.toNat : Int)) e1).trans (hu i (by omega))).symm
          · have hmin : min len zs.length = len := by omega
            simp [spotVal, hmin]
      · cases h
    · rename_i m b he
      split at h
      rename_i hb
      split at h
      · rename_i hc
        obtain ⟨hcb, hce⟩ := hc
        obtain rfl := Option.some.inj h
        obtain ⟨a, len, cap, rfl⟩ := okWide_slice ht hv
        obtain ⟨fuel, hx⟩ := hx
        rcases Go.Deep.open_slice ht hx with ⟨e1, _⟩ | ⟨a', len', cap', mm, nn, D, Pl, e1, _, hlc, _, hmm, _, hel⟩
        · simp [Value.cells] at e1
          obtain ⟨rfl, rfl, rfl⟩ := e1
          exact ⟨fun _ => 0, 0, ⟨none, 0⟩, Nat.le_refl _, fun _ => rfl, fun a ha => (by cases ha), rfl⟩
        · simp [Value.cells] at e1
          obtain ⟨rfl, rfl, rfl⟩ := e1
          have hlm : len ≤ mm := by rw [hmm]; split <;> omega
          refine ⟨fun j => u8OfCell (w.cell? (a'.add j)), len, ⟨some a', cap⟩, hlc, fun ha => (by cases ha), fun b0 hb0 i hi => ?_, rfl⟩
          obtain rfl := Option.some.inj hb0
          have hm : 0 < m := by
            rcases Nat.eq_zero_or_pos m with h' | h'
            · subst h'; simp at hi
            · exact h'
          have hq : i / m < len := (Nat.div_lt_iff_lt_mul hm).2 hi
          obtain ⟨cs', h1, h2⟩ := hel (i / m) (by omega)
          rw [hce] at h1
          obtain ⟨_, hlen, hcell⟩ := World.cells?_some h1
          have hr : i % m < m := Nat.mod_lt _ hm
          have h3 := hcell (i % m) hr
          have hsum : i / m * m + i % m = i := by rw [Nat.mul_comm]; exact Nat.div_add_mod i m
          rw [Addr.add_add, hsum] at h3
          have hk : kinds P 2 e = some (List.replicate m [Kd.int .u8]).flatten := by
            unfold kinds
            simp only [he]
            have : kinds P 1 b = some [Kd.int .u8] := by unfold kinds; simp only [hb]
            rw [this]
            simp only [List.length_singleton, hcb, hce, Nat.mul_one, and_self, if_true]
          obtain ⟨u, hu⟩ := fits_u8 m cs' (kinds_fits 2 e _ hk _ _ _ h2) (i % m) hr
          have e := h3.trans hu
          show w.cell? (a'.add i) = some (.int .u8 ((u8OfCell (w.cell? (a'.add i))).toNat : Int))
          rw [e]
          show some (Value.int .u8 (u.toNat : Int)) = some (.int .u8 ((UInt8.ofNat ((u.toNat : Int).toNat)).toNat : Int))
          rw [Int.toNat_natCast, UInt8.ofNat_toNat]
      · cases h
      · cases h
    · cases h
  · rename_i fs ht
    split at h
    · rename_i g ks hk
      obtain rfl := Option.some.inj h
      exact kindsA_fits hk hv hx
    · split at h
      · rename_i f g hfs
        split at h
        · rename_i m ks hr hk
          split at h
          · rename_i hc
            obtain ⟨c1, c2, c3, c4, c5⟩ := hc
            obtain rfl := Option.some.inj h
            obtain ⟨cs, rfl, _⟩ := okWide_struct ht hv
            obtain ⟨fuel, hx⟩ := hx
            obtain ⟨xs, mm, _, _, hlen, hsz, hf⟩ := DataW.trod_struct ht hx
            have hlen : cs.toList.length = P.cellsOf t := by simpa [Value.cells] using hlen
            have hsz2 : xs.length = 2 := by rw [hsz, ← Array.length_toList, hfs]; rfl
            have h0 := hf 0 f (by rw [← Array.getElem?_toList, hfs]; rfl)
            have h1 := hf 1 g (by rw [← Array.getElem?_toList, hfs]; rfl)
            rw [c1, c2, List.drop_zero] at h0
            rw [c3] at h1
            have hcs : ∃ v0 tl, cs.toList = v0 :: tl := by
              cases hcc : cs.toList with
              | nil => rw [hcc] at hlen; simp at hlen; omega
              | cons v0 tl => exact ⟨v0, tl, rfl⟩
            obtain ⟨v0, tl, hcs⟩ := hcs
            have e0 : (Value.agg cs).cells.toList = v0 :: tl := by simpa [Value.cells] using hcs
            rw [e0] at h0 h1
            obtain ⟨F, k, gg, k1, k2⟩ := rows_fits hr (v := v0) (h0.trans (List.getElem?_eq_getElem (by omega)))
            have k3 := kinds_fits n g.type ks hk _ _ _ (h1.trans (List.getElem?_eq_getElem (by omega)))
            have e1 : (List.drop 1 (v0 :: tl)).take (P.cellsOf g.type) = tl := by
              rw [List.drop_one, List.tail_cons, List.take_of_length_le]
              rw [hcs] at hlen
              simp at hlen
              omega
            rw [e1] at k3
            refine ⟨F, k, gg, tl, k1, k3, ?_⟩
            rw [← k2]
            congr 1
            apply Array.toList_inj.1
            rw [hcs]
          · cases h
        · rename_i ks hr hk
          split at h
          · rename_i hc
            obtain ⟨c0, c1, c2, c3, c4, c5⟩ := hc
            obtain rfl := Option.some.inj h
            obtain ⟨cs, rfl, _⟩ := okWide_struct ht hv
            obtain ⟨fuel, hx⟩ := hx
            obtain ⟨xs, mm, _, _, hlen, hsz, hf⟩ := DataW.trod_struct ht hx
            have hlen : cs.toList.length = P.cellsOf t := by simpa [Value.cells] using hlen
            have hsz2 : xs.length = 2 := by rw [hsz, ← Array.length_toList, hfs]; rfl
            have h0 := hf 0 f (by rw [← Array.getElem?_toList, hfs]; rfl)
            have h1 := hf 1 g (by rw [← Array.getElem?_toList, hfs]; rfl)
            rw [c1, c2, List.drop_zero] at h0
            rw [c3] at h1
            have hcs : ∃ v0 tl, cs.toList = v0 :: tl := by
              cases hcc : cs.toList with
              | nil => rw [hcc] at hlen; simp at hlen; omega
              | cons v0 tl => exact ⟨v0, tl, rfl⟩
            obtain ⟨v0, tl, hcs⟩ := hcs
            have e0 : (Value.agg cs).cells.toList = v0 :: tl := by simpa [Value.cells] using hcs
            rw [e0] at h0 h1
            obtain ⟨F, gg, k1, k2⟩ := bools_fits c0 (v := v0) (h0.trans (List.getElem?_eq_getElem (by omega)))
            have k3 := kinds_fits n g.type ks hk _ _ _ (h1.trans (List.getElem?_eq_getElem (by omega)))
            have e1 : (List.drop 1 (v0 :: tl)).take (P.cellsOf g.type) = tl := by
              rw [List.drop_one, List.tail_cons, List.take_of_length_le]
              rw [hcs] at hlen
              simp at hlen
              omega
            rw [e1] at k3
            refine ⟨F, gg, tl, k1, k3, ?_⟩
            rw [← k2]
            congr 1
            apply Array.toList_inj.1
            rw [hcs]
          · cases h
        · cases h
      · cases h
  · split at h
    · rename_i g ks hk
      obtain rfl := Option.some.inj h
      exact kindsA_fits hk hv hx
    · cases h

def ShapedAll (W : World) : List Shape → List Value → Prop
  | [], [] => True
  | s :: ss, v :: vs => Shaped W s v ∧ ShapedAll W ss vs
  | _, _ => False

theorem allShaped {n : Nat} {r : Reach} {b0 : Nat} : ∀ (ts : List TypeId) (ss : List Shape) (vs : List Value) (ds : List (DataW H)) (ps : List MemPlace), ts.map (shapeOf P n) = ss.map some →
    (∀ (j : Nat) t v, ts[j]? = some t → vs[j]? = some v → Value.okWide P w r b0 t v) → DataW.TrodAll enc P w base spare held ts vs ds ps → ShapedAll w ss vs
  | [], ss, vs, ds, ps, h, _, hx => by
    match ss, vs, ds, hx with
    | [], [], [], _ => trivial
    | _ :: _, _, _, _ => simp at h
  | t :: ts, [], _, _, _, h, _, _ => by simp at h
  | t :: ts, s :: ss, [], _, _, _, _, hx => hx.elim
  | t :: ts, s :: ss, v :: vs, [], _, _, _, hx => hx.elim
  | t :: ts, s :: ss, v :: vs, d :: ds, ps, h, hv, ⟨p, q, h1, h2, _⟩ => by
    simp only [List.map_cons, List.cons.injEq] at h
    exact ⟨shape_fits h.1 (hv 0 t v rfl rfl) h1, allShaped ts ss vs ds q h.2 (fun j t' v' a b => hv (j + 1) t' v' (by simpa using a) (by simpa using b)) h2⟩
end

/-- Cells of these kinds are a datum of this type. -/
class Opens (A : Type) [Atom A] (T : Type) [Rep A T] where
  kds : List Kd
  opens : ∀ cs, Fits kds cs → ∃ x : T, cs = Rep.vals A x

/-- Values of this shape are an argument of this type. -/
class OpensArg (A : Type) [Atom A] (T : Type) [Arg A T] where
  shape : Shape
  opens : ∀ W v, Shaped W shape v → ∃ (g : Arg.G A T) (x : T), Arg.good W g x ∧ v = Arg.val g x

class OpensAll (A : Type) [Atom A] (Γ : Type) [Args A Γ] where
  shapes : List Shape
  opens : ∀ W vs, ShapedAll W shapes vs → ∃ (g : Args.G A Γ) (x : Γ), Args.good W g x ∧ vs = Args.vals g x

section
variable {A : Type} [Atom A]
instance : OpensAll A Unit where
  shapes := []
  opens W vs h := by
    match vs, h with
    | [], _ => exact ⟨(), (), trivial, rfl⟩
    | _ :: _, h => exact h.elim

instance {T Γ : Type} [Arg A T] [Args A Γ] [OpensArg A T] [OpensAll A Γ] : OpensAll A (T × Γ) where
  shapes := OpensArg.shape A T :: OpensAll.shapes A Γ
  opens W vs h := by
    match vs, h with
    | [], h => exact h.elim
    | v :: vs, ⟨h1, h2⟩ =>
      obtain ⟨g2, y, k2, rfl⟩ := OpensAll.opens W vs h2
      obtain ⟨g1, x, k1, rfl⟩ := OpensArg.opens W v h1
      exact ⟨(g1, g2), (x, y), ⟨k1, k2⟩, rfl⟩

instance (priority := low) {T : Type} [Rep A T] [Opens A T] : OpensArg A T where
  shape := .flat (Rep.agg A T) (Opens.kds A T)
  opens W v h := by
    suffices ∃ x : T, v = Rep.val (A := A) x by
      obtain ⟨x, rfl⟩ := this
      exact ⟨(), x, trivial, rfl⟩
    have h1 : FitsV (Rep.agg A T, Opens.kds A T) v := h
    unfold Rep.val
    cases hag : Rep.agg A T with
    | true =>
      rw [hag] at h1
      obtain ⟨cs, rfl, h1⟩ := h1
      obtain ⟨x, e⟩ := Opens.opens (A := A) _ h1
      exact ⟨x, by rw [← e]⟩
    | false =>
      rw [hag] at h1
      obtain ⟨x, e⟩ := Opens.opens (A := A) _ (show Fits (Opens.kds A T) [v] from h1)
      exact ⟨x, by rw [← e]; rfl⟩

instance {S T : Type} [Rep A S] [Rep A T] [Sized A S] [Opens A S] [Opens A T] : Opens A (S × T) where
  kds := Opens.kds A S ++ Opens.kds A T
  opens cs h := by
    obtain ⟨x, y, rfl, h1, h2⟩ := Fits.split h
    obtain ⟨a, rfl⟩ := Opens.opens (A := A) _ h1
    obtain ⟨b, rfl⟩ := Opens.opens (A := A) _ h2
    exact ⟨(a, b), rfl⟩
end

instance {B : Type} [Big B] : OpensArg (At B) Bs where
  shape := .bytes
  opens W v h := by
    obtain ⟨l, g, h1, rfl⟩ := h
    exact ⟨g, ⟨l⟩, h1, rfl⟩

theorem Fits.one {k : Kd} {cs : List Value} (h : Fits [k] cs) : ∃ v, cs = [v] ∧ k.fits v := by
  match cs, h with
  | [v], h => exact ⟨v, rfl, h.1⟩
  | [], h => exact h.elim
  | _ :: _ :: _, h => exact h.2.elim

section
variable {B : Type} [Big B]
instance : Opens (At B) UInt64 where
  kds := [.int .u64]
  opens cs h := by
    obtain ⟨v, rfl, z, rfl, hw⟩ := h.one
    have hw' : (0 : Int) ≤ z ∧ z ≤ 18446744073709551615 := by simpa [Lit.wf, IntKind.min, IntKind.max, IntKind.signed, IntKind.bits] using hw
    obtain ⟨n, rfl⟩ := Int.eq_ofNat_of_zero_le hw'.1
    refine ⟨UInt64.ofNat n, ?_⟩
    show [Value.int .u64 n] = [Value.int .u64 ((UInt64.ofNat n).toNat : Int)]
    rw [UInt64.toNat_ofNat_of_lt' (show n < 18446744073709551616 by omega)]

instance : Opens (At B) UInt32 where
  kds := [.int .u32]
  opens cs h := by
    obtain ⟨v, rfl, z, rfl, hw⟩ := h.one
    have hw' : (0 : Int) ≤ z ∧ z ≤ 4294967295 := by simpa [Lit.wf, IntKind.min, IntKind.max, IntKind.signed, IntKind.bits] using hw
    obtain ⟨n, rfl⟩ := Int.eq_ofNat_of_zero_le hw'.1
    refine ⟨UInt32.ofNat n, ?_⟩
    show [Value.int .u32 n] = [Value.int .u32 ((UInt32.ofNat n).toNat : Int)]
    rw [UInt32.toNat_ofNat_of_lt' (show n < 4294967296 by omega)]

instance : Opens (At B) UInt8 where
  kds := [.int .u8]
  opens cs h := by
    obtain ⟨v, rfl, z, rfl, hw⟩ := h.one
    have hw' : (0 : Int) ≤ z ∧ z ≤ 255 := by simpa [Lit.wf, IntKind.min, IntKind.max, IntKind.signed, IntKind.bits] using hw
    obtain ⟨n, rfl⟩ := Int.eq_ofNat_of_zero_le hw'.1
    refine ⟨UInt8.ofNat n, ?_⟩
    show [Value.int .u8 n] = [Value.int .u8 ((UInt8.ofNat n).toNat : Int)]
    rw [UInt8.toNat_ofNat_of_lt' (show n < 256 by omega)]

instance : Opens (At B) Bool where
  kds := [.bool]
  opens cs h := by
    obtain ⟨v, rfl, b, rfl⟩ := h.one
    exact ⟨b, rfl⟩

instance : Opens (At B) Int where
  kds := [.int .i64]
  opens cs h := by
    obtain ⟨v, rfl, z, rfl, _⟩ := h.one
    exact ⟨z, rfl⟩
end

/-- A law's statement out of its contract. -/
theorem law_row {A : Type} [Atom A] {H : Type} {enc : TypeId × Value → H} {C : Checked} {os : Os} {f : FuncId} {fn : Func} {s : ChangeSpec} {apart fresh handsOn again : Bool} {tb : TypeId} {Γ : Type} [Args A Γ] [OpensAll A Γ] [Res A Bool]
    (hT : Res.val A true = Value.bool true) (hc : Computes A C.prog f (fun _ : Γ => true)) (n : Nat) (hk : fn.params.toList.map (shapeOf C.prog n) = (OpensAll.shapes A Γ).map some)
    (started : os.Started) (hfn : C.prog.funcs[f]? = some fn) (hnm : (fn.name == "runtime.NumGoroutine") = false) (hbd : fn.body.isNone = false)
    (own : ownKnob C.prog.godebug = none) (noInit : C.prog.inits.idxOf? f = none) (hl : laidOutB C.prog = true)
    (hr : fn.params.toList.all (fun t => C.prog.readableRec t && decide (t < C.prog.types.size)) = true) (hv : s.vars = []) (hrt : fn.resultTypes = #[tb]) (htb : C.prog.underlying tb = some .bool)
    (hs : ∀ ds : List (DataW H), ds.length = fn.params.size → s.fn H ds = { results := [.lit (.bool true)], args := ds })
    (witness : ∃ (w : World) (tape : Tape) (i : Input), w.os = os ∧ (w.forCall tape i).Shaped C.prog ∧ i.vars = [] ∧ Input.okWide C.prog (w.forCall tape i) .any w.heap.size f i ∧
      s.pre6 enc C.prog fn [] apart (w.forCall tape i).memory i.args ∧ ({} : Assume).holds C.prog (lone (Frame.enter C.prog f i.args .normal) [] (w.forCall tape i))) :
    ReturnsInHanded {} C os f .any (s.pre6 enc C.prog fn [] apart) (s.post enc C.prog fn apart fresh handsOn again) := by
  refine law_returns started hfn own noInit hl hr hv hrt htb hs witness ?_
  intro W base args ds ps hval hA
  obtain ⟨g, x, hg, hx⟩ := OpensAll.opens (A := A) (Γ := Γ) W _ (allShaped _ _ _ _ _ hk hval hA)
  obtain ⟨l⟩ := args
  have hx' : l = Args.vals g x := hx
  subst hx'
  rcases hc g x W hg with ⟨v, h1, _⟩ | ⟨_, h2⟩
  · rw [callFunc_enter hfn hnm hbd] at h1
    simp at h1
  · refine h2.mono ?_
    rintro e W' ⟨v, rfl, rfl, hk⟩
    exact ⟨by rw [hT], hk.below⟩
end Go.Sh
