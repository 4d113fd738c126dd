/- Numbers, rows of bytes, texts as data. -/
import Derived.Test.YtbdbmcdcjejffaaFmB
import Derived.Test.YtbdbmcdcjejffaaEnL
set_option linter.unusedVariables false
set_option linter.unusedSimpArgs false
set_option linter.unusedSectionVars false
namespace Go.Sh

def wordsOf : List (SV A) → Option (List UInt64)
  | [] => some []
  | .a (.u64 x) :: l => match wordsOf l with | some r => some (x :: r) | none => none
  | .a (.cy x) :: l => match wordsOf l with | some r => some (cond x 1 0 :: r) | none => none
  | .v (.int .u64 (.ofNat n)) :: l => if n < 18446744073709551616 then (match wordsOf l with | some r => some (UInt64.ofNat n :: r) | none => none) else none
  | _ => none

theorem wordsOf_is {β : Adr} : ∀ {l : List (SV A)} {vs : List Value} {r : List UInt64}, LIs β l vs → wordsOf l = some r → vs = r.map fun x => Value.int .u64 x.toNat
  | [], vs, r, h, e => by simp [wordsOf] at e; subst e; exact h
  | s :: l, vs, r, ⟨x, y, h1, h2, e'⟩, e => by
    subst e'
    unfold wordsOf at e
    split at e
    · rename_i heq; cases heq
    · rename_i z l' heq
      obtain ⟨rfl, rfl⟩ := List.cons.inj heq
      split at e
      · rename_i r' hr
        simp at e; subst e
        have h3 : x = [Value.int .u64 z.toNat] := h1
        rw [wordsOf_is h2 hr, h3]
        rfl
      · cases e
    · rename_i z l' heq
      obtain ⟨rfl, rfl⟩ := List.cons.inj heq
      split at e
      · rename_i r' hr
        simp at e; subst e
        have h3 : x = [Value.int .u64 (cond z 1 0)] := h1
        rw [wordsOf_is h2 hr, h3]
        cases z <;> rfl
      · cases e
    · rename_i k l' heq
      obtain ⟨rfl, rfl⟩ := List.cons.inj heq
      split at e
      · rename_i hk
        split at e
        · rename_i r' hr
          simp at e; subst e
          obtain ⟨h3, _⟩ := h1
          rw [wordsOf_is h2 hr, h3]
          simp [UInt64.toNat_ofNat_of_lt' hk]
        · cases e
      · cases e
    · cases e

def numParse : List (SV A) → Option Num
  | [.a (.big (.num x))] => some x
  | l => match wordsOf (flat l) with | some [a, b, c, d, e, f] => some (numO (a, b, c, d, e, f)) | _ => none

instance : Rep A Num where
  agg := true
  shw x := [.a (.big (.num x))]
  vals x := cells6 (numL x)
  parse := numParse
  is β x := ⟨_, [], rfl, rfl, by simp; rfl⟩
  only := by
    rintro β x vs ⟨u, y, h1, h2, rfl⟩
    obtain rfl : y = [] := h2
    have h3 : u = cells6 (numL x) := h1
    simp [h3]
  ok := by
    intro β l x vs h e
    unfold numParse at h
    split at h
    · obtain ⟨u, y, h1, h2, rfl⟩ := e
      obtain rfl : y = [] := h2
      simp at h; subst h
      have h3 : u = _ := h1
      simp [h3]
      rfl
    · split at h
      · rename_i a b c d e' f hw
        simp at h; subst h
        rw [wordsOf_is (flat_is e) hw, numL_numO]
        rfl
      · cases h
  single h := by cases h

instance : Sized A Num := ⟨6, fun _ => rfl⟩

/-- A row of n bytes. -/
structure R8 (n : Nat) where
  f : Nat → UInt8

def R8.list {n : Nat} (r : R8 n) : List UInt8 := (List.range n).map r.f

def r8Parse (n : Nat) (l : List (SV A)) : Option (R8 n) :=
  match bytesL (flat l) with
  | some r => if r.length = n then some ⟨pickN 0 r⟩ else none
  | none => none

theorem r8_vals {n : Nat} (l : List UInt8) (h : l.length = n) : ((List.range n).map fun i => Value.int .u8 ((pickN 0 l i).toNat : Int)) = l.map fun x => Value.int .u8 x.toNat := by
  subst h
  exact pickN_range 0 (fun x : UInt8 => Value.int .u8 x.toNat) l

instance (n : Nat) : Rep A (R8 n) where
  agg := true
  shw x := [.a (.w8 n x.f)]
  vals x := (List.range n).map fun i => .int .u8 (x.f i).toNat
  parse := r8Parse n
  is β x := ⟨_, [], rfl, rfl, by simp; rfl⟩
  only := by
    rintro β x vs ⟨u, y, h1, h2, rfl⟩
    obtain rfl : y = [] := h2
    have h3 : u = _ := h1
    simp [h3]
    rfl
  ok := by
    intro β l x vs h e
    unfold r8Parse at h
    split at h
    · rename_i r hr
      split at h
      · rename_i hl
        simp at h; subst h
        rw [bytesL_is (flat_is e) hr]
        exact (r8_vals r hl).symm
      · cases h
    · cases h
  single h := by cases h

instance (n : Nat) : Sized A (R8 n) := ⟨n, fun x => by show ((List.range n).map _).length = n; simp⟩

/-- A number below p, as it is. -/
structure Pl where
  x : Fp

def Pl.num (a : Pl) : Num := ⟨a.x.val, Nat.lt_trans a.x.isLt (by have := pN_lt; rwa [w384] at this)⟩
def plOf (n : Num) : Pl := ⟨⟨n.val % pN, Nat.mod_lt _ (by decide)⟩⟩
theorem plOf_num {n : Num} (h : n.val < pN) : (plOf n).num = n := Fin.ext (Nat.mod_eq_of_lt h)

instance : Arg A Pl where
  G := Unit
  good _ _ _ := True
  tv _ a := Rep.tv a.num
  val _ a := Rep.val (A := A) a.num
  is β _ := Rep.tv_is β _
  parse _ _ t := match argParse (T := Num) t with | some (n, vc) => some (plOf n, (n.val < pN) :: vc) | none => none
  ok := by
    intro c X W0 W β m t x vc v h hvc hm e
    split at h
    · rename_i n vc' hn
      simp at h
      obtain ⟨rfl, rfl⟩ := h
      have h1 : n.val < pN := hvc _ (by simp)
      obtain ⟨g, _, h2⟩ := Arg.ok (A := A) (T := Num) (c := c) (m := m) hn (fun p hp => hvc p (by simp [hp])) hm e
      refine ⟨(), trivial, ?_⟩
      rw [plOf_num h1]
      exact h2
    · cases h

/-- Bytes, not too many. -/
structure Bt where
  l : List UInt8

instance : Arg A Bt where
  G := Spot
  good W g x := HasBytes W x.l g ∧ x.l.length < 1048576
  tv g x := .val false [.e g.a (byteAt x.l) 0 x.l.length g.c]
  val g x := spotVal x.l.length g
  is β h := Arg.is (A := A) (T := Bs) (x := ⟨_⟩) β h.1
  parse old m t := match bsParse old m t with | some (b, vc) => some (⟨b.l⟩, (b.l.length < 1048576) :: vc) | none => none
  ok := by
    intro c X W0 W β m t x vc v h hvc hm e
    split at h
    · rename_i b vc' hb
      simp at h
      obtain ⟨rfl, rfl⟩ := h
      obtain ⟨g, h1, h2⟩ := Arg.ok (A := A) (T := Bs) (c := c) (m := m) hb (fun p hp => hvc p (by simp [hp])) hm e
      exact ⟨g, ⟨h1, hvc _ (by simp)⟩, h2⟩
    · cases h

/-- The number of bytes, the highest first. -/
def numB : List UInt8 → Nat
  | l => l.foldl (fun n x => 256 * n + x.toNat) 0

end Go.Sh
