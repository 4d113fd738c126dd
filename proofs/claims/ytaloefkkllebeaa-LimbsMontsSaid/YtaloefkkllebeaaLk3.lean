/- Slices of numbers, as arguments and as what a call leaves. -/
import Derived.Test.YtaloefkkllebeaaLk2
set_option linter.unusedVariables false
set_option linter.unusedSimpArgs false
set_option linter.unusedSectionVars false
namespace Go.Sh
open Go.RowKit
/-- The numbers of a slice. -/
structure Is where
  l : List Int
/-- Numbers that a call leaves. -/
structure Iz where
  l : List Int
section
variable {B : Type} [Big B]
def i64of : At B → Int
  | .num .i64 z => z
  | _ => 0
def isI64 : At B → Bool
  | .num .i64 _ => true
  | _ => false
def intAt (l : List Int) : Nat → At B := fun j => .num .i64 (l.getD j 0)
theorem isI64_cell {x : At B} {v : Value} (h : isI64 x = true) (e : Atom.cells x = [v]) : v = .int .i64 (i64of x) := by
  cases x <;> simp [isI64] at h
  rename_i k z
  cases k <;> simp at h
  have k4 : [Value.int .i64 z] = [v] := e
  simp at k4
  exact k4.symm
theorem getD_rangeI (g : Nat → Int) (n j : Nat) (h : j < n) : ((List.range n).map g).getD j 0 = g j := by
  simp [List.getD_eq_getElem?_getD, h]
def HasInts (W : World) (l : List Int) (g : Spot) : Prop :=
  l.length ≤ g.c ∧ (g.a = none → g.c = 0) ∧ ∀ a, g.a = some a → ∀ i, i < l.length → W.cell? (a.add i) = some (.int .i64 (l.getD i 0))
def isParse (old : Addr → Option Value) (m : Mem (At B)) : TV (At B) → Option (Is × List Prop)
  | .val false [.e a f i n _] => some (⟨(List.range n).map fun j => i64of (f (i + j))⟩, [Reads old a f i n, ∀ j, j < n → isI64 (f (i + j)) = true, n < 1048576])
  | .val false [.kn f i n 1] => some (⟨(List.range n).map fun j => i64of (f (i + j))⟩, [∀ j, j < n → isI64 (f (i + j)) = true, n < 1048576])
  | .val false [.v (.slice none 0 0)] => some (⟨[]⟩, [])
  | _ => none
instance : Arg (At B) Is where
  G := Spot
  good W g x := HasInts W x.l g ∧ x.l.length < 1048576
  tv g x := .val false [.e g.a (intAt x.l) 0 x.l.length g.c]
  val g x := spotVal x.l.length g
  is := by
    intro W g x β h
    obtain ⟨a, c⟩ := g
    obtain ⟨⟨h1, h2, h3⟩, _⟩ := h
    cases a with
    | none =>
      have hc : c = 0 := h2 rfl
      exact LIs.of_single ⟨by simp only at h1; omega, hc, rfl⟩
    | some a => exact LIs.of_single ⟨a, fun _ => (by simp [Addr.add]), h1, rfl⟩
  parse old m t := isParse old m (asKn t)
  ok := by
    intro c X W0 W β m t0 x vc v h hvc hm e
    replace e := asKn_is e
    revert h e
    generalize asKn t0 = t
    intro h e
    unfold isParse at h
    split at h
    · rename_i a f i n cp
      simp at h
      obtain ⟨rfl, rfl⟩ := h
      have e1 := LIs.single (e : LIs β _ [v])
      cases a with
      | none =>
        obtain ⟨rfl, rfl, e2⟩ := e1
        simp at e2
        exact ⟨⟨none, 0⟩, ⟨⟨Nat.le_refl _, fun _ => rfl, fun a ha => (by cases ha)⟩, by simp⟩, e2⟩
      | some a =>
        obtain ⟨p, hp, hn, e2⟩ := e1
        simp at e2
        refine ⟨⟨some p, cp⟩, ⟨⟨by simpa using hn, fun ha => (by cases ha), fun b hb j hj => ?_⟩, by simpa using hvc (n < 1048576) (by simp)⟩, by simpa [spotVal] using e2⟩
        obtain rfl := Option.some.inj hb
        simp at hj
        have h1 : Reads c.old (some a) f i n := hvc _ (by simp)
        have h2 : ∀ j, j < n → isI64 (f (i + j)) = true := hvc _ (by simp)
        rw [hp (by omega), Addr.add_add]
        obtain ⟨u, k1, k2⟩ := h1 a rfl j hj
        rw [hm.cell k1, isI64_cell (h2 j hj) k2, getD_rangeI _ n j hj]
    · rename_i f i n
      simp at h
      obtain ⟨rfl, rfl⟩ := h
      have e1 : knownIs β f i n 1 [v] := LIs.single (e : LIs β _ [v])
      rcases e1 with ⟨rfl, e2⟩ | ⟨p, cp, e2, hn, hk⟩
      · simp at e2
        exact ⟨⟨none, 0⟩, ⟨⟨Nat.le_refl _, fun _ => rfl, fun a ha => (by cases ha)⟩, by simp⟩, e2⟩
      · simp at e2
        refine ⟨⟨some p, cp⟩, ⟨⟨by simpa using hn, fun ha => (by cases ha), fun b hb j hj => ?_⟩, by simpa using hvc (n < 1048576) (by simp)⟩, by simpa [spotVal] using e2⟩
        obtain rfl := Option.some.inj hb
        simp at hj
        obtain ⟨u, k1, k2⟩ := hk j (by omega)
        rw [(hm.kn _ _ k1).1, isI64_cell (hvc (∀ j, j < n → isI64 (f (i + j)) = true) (by simp) j hj) k2, getD_rangeI _ n j hj]
    · simp at h
      obtain ⟨rfl, rfl⟩ := h
      obtain ⟨e1, _⟩ := LIs.single (e : LIs β _ [v])
      simp at e1
      exact ⟨⟨none, 0⟩, ⟨⟨Nat.le_refl _, fun _ => rfl, fun a ha => (by cases ha)⟩, by simp⟩, e1⟩
    · cases h
def FreshInts (W : World) (n : Nat) (l : List Int) (v : Value) : Prop :=
  (l = [] ∧ v = .slice none 0 0) ∨ ∃ a c, v = .slice (some a) l.length c ∧ l.length ≤ c ∧ ∀ i, i < l.length → W.cell? (a.add i) = some (.int .i64 (l.getD i 0)) ∧ n ≤ (a.add i).block
def izParse : TV (At B) → Option (Iz × List Prop)
  | .val false [.kn f i n 1] => some (⟨(List.range n).map fun j => i64of (f (i + j))⟩, [∀ j, j < n → isI64 (f (i + j)) = true])
  | .val false [.v (.slice none 0 0)] => some (⟨[]⟩, [])
  | _ => none
instance : Ret (At B) Iz where
  tv x := .val false [.kn (intAt x.l) 0 x.l.length 1]
  good W n x v := FreshInts W n x.l v
  is := by
    intro W n x v h
    rcases h with ⟨h1, rfl⟩ | ⟨a, c, rfl, h1, h2⟩
    · exact ⟨fun _ _ => False, fun _ _ h => h.elim, fun β => LIs.of_single (.inl ⟨by rw [h1]; rfl, rfl⟩)⟩
    · refine ⟨fun a' u => ∃ i, i < x.l.length ∧ a' = a.add i ∧ u = .int .i64 (x.l.getD i 0), ?_, fun β => LIs.of_single (.inr ⟨a, c, rfl, h1, fun j hj => ⟨_, .inr ⟨j, by omega, rfl, rfl⟩, ?_⟩⟩)⟩
      · rintro a' u ⟨i, hi, rfl, rfl⟩
        exact h2 i hi
      · rw [Nat.zero_add]; rfl
  parse m t := izParse (asKn t)
  ok := by
    intro c W0 W β m t0 x vc v h hvc hm e
    replace e := asKn_is e
    revert h e
    generalize asKn t0 = t
    intro h e
    unfold izParse at h
    split at h
    · rename_i f i n
      simp at h
      obtain ⟨rfl, rfl⟩ := h
      have e1 : knownIs β f i n 1 [v] := LIs.single (e : LIs β _ [v])
      rcases e1 with ⟨rfl, e2⟩ | ⟨p, cp, e2, hn, hk⟩
      · simp at e2
        exact .inl ⟨rfl, e2⟩
      · simp at e2
        refine .inr ⟨p, cp, by simpa using e2, by simpa using hn, fun j hj => ?_⟩
        simp at hj
        obtain ⟨u, k1, k2⟩ := hk j (by omega)
        obtain ⟨k3, k4, _⟩ := hm.kn _ _ k1
        exact ⟨by rw [k3, isI64_cell (hvc (∀ j, j < n → isI64 (f (i + j)) = true) (by simp) j hj) k2, getD_rangeI _ n j hj], k4.resolve_right id⟩
    · simp at h
      obtain ⟨rfl, rfl⟩ := h
      obtain ⟨e1, _⟩ := LIs.single (e : LIs β _ [v])
      simp at e1
      exact .inl ⟨rfl, e1⟩
    · cases h
theorem reads_ints {W : World} {l : List Int} {g : Spot} (h : HasInts W l g) {i n : Nat} (hi : i + n ≤ l.length) : Reads W.cell? g.a (intAt (B := B) l) i n := by
  intro b hb j hj
  exact ⟨_, h.2.2 b hb (i + j) (by omega), rfl⟩
end
/-- Where a loop gets, round by round. -/
inductive Goes {A : Type} [Atom A] (c : Cfg A) (x : Code) : St A → Ex → St A → Prop
  | last {s : St A} {e : Ex} {s' : St A} : e ≠ .normal → Round c x s e s' → Goes c x s e s'
  | step {s s1 : St A} {e : Ex} {s' : St A} : Round c x s .normal s1 → Goes c x s1 e s' → Goes c x s e s'
theorem Goes.sound {A : Type} [Atom A] {c : Cfg A} {x : Code} {s : St A} {e : Ex} {s' : St A} (h : Goes c x s e s') : SoundAt c (.loop x) s e s' := by
  suffices ∃ (N : Nat) (inv : Nat → St A), inv 0 = s ∧ e ≠ .normal ∧ (∀ k, k < N → Round c x (inv k) .normal (inv (k + 1))) ∧ Round c x (inv N) e s' by
    obtain ⟨N, inv, rfl, he, h1, h2⟩ := this
    exact loopAt he h1 h2
  induction h with
  | @last s e s' he hr => exact ⟨0, fun _ => s, rfl, he, fun k hk => absurd hk (Nat.not_lt_zero k), hr⟩
  | @step s s1 e s' hr _ ih =>
    obtain ⟨N, inv, e0, he, h1, h2⟩ := ih
    refine ⟨N + 1, fun k => match k with | 0 => s | k + 1 => inv k, rfl, he, fun k hk => ?_, h2⟩
    cases k with
    | zero => show Round c x s .normal (inv 0); rw [e0]; exact hr
    | succ k => exact h1 k (by omega)
end Go.Sh
