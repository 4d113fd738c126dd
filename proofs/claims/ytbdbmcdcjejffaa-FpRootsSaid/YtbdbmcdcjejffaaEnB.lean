/- What a shadow stands for, and that the operations on shadows are those on values. -/
import Derived.Test.YtbdbmcdcjejffaaEnA
import Derived.Laws.CopyRow
import Derived.Laws.Rows
import Derived.RangeFuncNested
set_option linter.unusedVariables false
set_option linter.unusedSimpArgs false
set_option linter.unusedSectionVars false
namespace Go.Sh
open Go.RowKit

/-- Where the blocks lie; which blocks hold the calls that loops over functions have put off (none); which cells hold for good; where the growing slices lie at each of their turns (no block: nil), and for how many elements there is room. -/
structure Adr where
  pl : Nat → Option Nat
  kp : Nat → Prop
  kn : Addr → Value → Prop
  gs : Nat → Nat → Option (Option Nat × Nat)

/-- Nothing is known. -/
def Adr.nil : Adr := ⟨fun _ => none, fun _ => False, fun _ _ => False, fun _ _ => none⟩
/-- More cells hold for good. -/
def Adr.know (β : Adr) (K : Addr → Value → Prop) : Adr := ⟨β.pl, β.kp, fun a v => β.kn a v ∨ K a v, β.gs⟩

instance : CoeFun Adr (fun _ => Nat → Option Nat) := ⟨Adr.pl⟩

structure Adr.le (β β' : Adr) : Prop where
  pl : ∀ i b, β i = some b → β' i = some b
  kp : ∀ k, β.kp k → β'.kp k
  kn : ∀ a v, β.kn a v → β'.kn a v
  gs : ∀ i v x, β.gs i v = some x → β'.gs i v = some x
theorem Adr.le_refl (β : Adr) : Adr.le β β := ⟨fun _ _ h => h, fun _ h => h, fun _ _ h => h, fun _ _ _ h => h⟩
theorem Adr.le_trans {β β' β'' : Adr} (h : Adr.le β β') (h' : Adr.le β' β'') : Adr.le β β'' :=
  ⟨fun i b e => h'.pl i b (h.pl i b e), fun k e => h'.kp k (h.kp k e), fun a v e => h'.kn a v (h.kn a v e), fun i v x e => h'.gs i v x (h.gs i v x e)⟩
theorem Adr.le_know (β : Adr) (K : Addr → Value → Prop) : Adr.le β (β.know K) := ⟨fun _ _ h => h, fun _ h => h, fun _ _ h => .inl h, fun _ _ _ h => h⟩

section
variable {A : Type} [Atom A]

def capsIs (β : Adr) : List (Nat × Nat) → List Value → Prop
  | [], vs => vs = []
  | (i, off) :: l, vs => ∃ b r, β i = some b ∧ capsIs β l r ∧ vs = .pointer (some ⟨b, off, none⟩) :: r

def extIs : Option Addr → Nat → Nat → Nat → List Value → Prop
  | none, _, n, c, vs => n = 0 ∧ c = 0 ∧ vs = [.slice none 0 0]
  | some a, i, n, c, vs => ∃ p, (0 < c → p = a.add i) ∧ n ≤ c ∧ vs = [.slice (some p) n c]

/-- k cells from p on hold for good. -/
def Known (β : Adr) (p : Addr) (f : Nat → A) (i k : Nat) : Prop := ∀ j, j < k → ∃ v, β.kn (p.add j) v ∧ Atom.cells (f (i + j)) = [v]

def knownIs (β : Adr) (f : Nat → A) (i n sz : Nat) (vs : List Value) : Prop :=
  (n = 0 ∧ vs = [.slice none 0 0]) ∨ ∃ p c, vs = [.slice (some p) n c] ∧ n ≤ c ∧ Known β p f i (n * sz)

def growsIs (off d n : Nat) (vs : List Value) : Option (Option Nat × Nat) → Prop
  | some (none, _) => n = 0 ∧ vs = [.slice none 0 0]
  | some (some b, cap) => ∃ p, (d < cap → p = ⟨b, off, none⟩) ∧ d + n ≤ cap ∧ vs = [.slice (some p) n (cap - d)]
  | none => False

def growsAt (off : Nat) (vs : List Value) : Option (Option Nat × Nat) → Prop
  | some (some b, _) => vs = [.pointer (some ⟨b, off, none⟩)]
  | _ => False

def SV.Is (β : Adr) : SV A → List Value → Prop
  | .v x, vs => vs = [x] ∧ x.oneCell' = true
  | .n k x, vs => vs = [.int k x]
  | .b x, vs => vs = [.bool x]
  | .p i off, vs => ∃ b, β i = some b ∧ vs = [.pointer (some ⟨b, off, none⟩)]
  | .s i off len cap, vs => ∃ b, β i = some b ∧ vs = [.slice (some ⟨b, off, none⟩) len cap]
  | .f g cap, vs => ∃ cs, capsIs β cap cs ∧ vs = [.func (.func g) #[] cs.toArray]
  | .a x, vs => vs = Atom.cells x
  | .r i off len z, vs => z < len ∧ ∃ b, β i = some b ∧ vs = [.pointer (some ⟨b, off + z, none⟩)]
  | .e ad _ i ln cp, vs => extIs ad i ln cp vs
  | .q ad _ i, vs => ∃ b, ad = some b ∧ vs = [.pointer (some (b.add i))]
  | .y i, vs => ∃ b, β i = some b ∧ vs = [.func (.yield b) #[] #[]]
  | .w k x, vs => vs = [.int k (k.wrap x)]
  | .kn fc i ln sz, vs => knownIs β fc i ln sz vs
  | .ka fc i ln, vs => ∃ ad, vs = [.pointer (some ad)] ∧ Known β ad fc i ln
  | .gr i tu off de ln, vs => growsIs off de ln vs (β.gs i tu)
  | .ga i tu off, vs => growsAt off vs (β.gs i tu)
  | .mk _ _, _ => False
  | .tx l, vs => vs = [.string ⟨l.toArray⟩]

def LIs (β : Adr) : List (SV A) → List Value → Prop
  | [], vs => vs = []
  | s :: l, vs => ∃ x y, SV.Is β s x ∧ LIs β l y ∧ vs = x ++ y

def VIs (β : Adr) (g : Bool) (l : List (SV A)) (v : Value) : Prop :=
  match g with
  | true => ∃ vs, LIs β l vs ∧ v = .agg vs.toArray
  | false => LIs β l [v]

def PsIs (β : Adr) : List (Bool × List (SV A)) → List Value → Prop
  | [], vs => vs = []
  | x :: l, vs => ∃ v r, VIs β x.1 x.2 v ∧ PsIs β l r ∧ vs = v :: r

def TV.Is (β : Adr) : TV A → Value → Prop
  | .val g l, v => VIs β g l v
  | .tup l, v => ∃ vs, PsIs β l vs ∧ v = .tuple vs.toArray
  | .any, _ => True

def TsIs (β : Adr) : List (TV A) → List Value → Prop
  | [], vs => vs = []
  | x :: l, vs => ∃ v r, TV.Is β x v ∧ TsIs β l r ∧ vs = v :: r

theorem capsIs.mono {β β' : Adr} (h : Adr.le β β') : ∀ {l vs}, capsIs β l vs → capsIs β' l vs
  | [], _, e => e
  | (_, _) :: _, _, ⟨b, r, h1, h2, e⟩ => ⟨b, r, h.pl _ _ h1, capsIs.mono h h2, e⟩

theorem Known.mono {β β' : Adr} (h : Adr.le β β') {p : Addr} {f : Nat → A} {i k : Nat} (hk : Known β p f i k) : Known β' p f i k := fun j hj => by
  obtain ⟨v, h1, h2⟩ := hk j hj
  exact ⟨v, h.kn _ _ h1, h2⟩

theorem growsIs.some {off d n : Nat} {vs : List Value} {x : Option (Option Nat × Nat)} (h : growsIs off d n vs x) : ∃ y, x = some y := by
  cases x with
  | none => exact h.elim
  | some y => exact ⟨y, rfl⟩
theorem growsAt.some {off : Nat} {vs : List Value} {x : Option (Option Nat × Nat)} (h : growsAt off vs x) : ∃ b c, x = some (some b, c) ∧ vs = [.pointer (some ⟨b, off, none⟩)] := by
  cases x with
  | none => exact h.elim
  | some y =>
    obtain ⟨b, c⟩ := y
    cases b with
    | none => exact h.elim
    | some b => exact ⟨b, c, rfl, h⟩
theorem growsIs.single {off d n : Nat} {vs : List Value} {x : Option (Option Nat × Nat)} (h : growsIs off d n vs x) : ∃ p c, vs = [.slice p n c] := by
  obtain ⟨⟨b, cap⟩, rfl⟩ := h.some
  cases b with
  | none => obtain ⟨rfl, h⟩ := h; exact ⟨_, _, h⟩
  | some b => obtain ⟨p, _, _, h⟩ := h; exact ⟨_, _, h⟩
theorem knownIs.single {β : Adr} {f : Nat → A} {i n sz : Nat} {vs : List Value} (h : knownIs β f i n sz vs) : ∃ p c, vs = [.slice p n c] := by
  rcases h with ⟨rfl, h⟩ | ⟨p, c, h, _⟩
  · exact ⟨_, _, h⟩
  · exact ⟨_, _, h⟩

theorem SV.Is.mono {β β' : Adr} (h : Adr.le β β') {s : SV A} {vs : List Value} (hs : s.Is β vs) : s.Is β' vs := by
  cases s with
  | p i off => obtain ⟨b, h1, h2⟩ := hs; exact ⟨b, h.pl _ _ h1, h2⟩
  | r i off len z => obtain ⟨h0, b, h1, h2⟩ := hs; exact ⟨h0, b, h.pl _ _ h1, h2⟩
  | s i off len cap => obtain ⟨b, h1, h2⟩ := hs; exact ⟨b, h.pl _ _ h1, h2⟩
  | f g cap => obtain ⟨cs, h1, h2⟩ := hs; exact ⟨cs, h1.mono h, h2⟩
  | y i => obtain ⟨b, h1, h2⟩ := hs; exact ⟨b, h.pl _ _ h1, h2⟩
  | kn f i n sz =>
    rcases hs with h1 | ⟨p, c, h1, h2, h3⟩
    · exact .inl h1
    · exact .inr ⟨p, c, h1, h2, h3.mono h⟩
  | ka f i k => obtain ⟨p, h1, h2⟩ := hs; exact ⟨p, h1, h2.mono h⟩
  | gr i v off d n =>
    have hs : growsIs off d n vs (β.gs i v) := hs
    obtain ⟨y, hy⟩ := hs.some
    show growsIs off d n vs (β'.gs i v)
    rw [h.gs _ _ _ hy]
    rw [hy] at hs
    exact hs
  | ga i v off =>
    have hs : growsAt off vs (β.gs i v) := hs
    obtain ⟨b, c, hy, h2⟩ := hs.some
    show growsAt off vs (β'.gs i v)
    rw [h.gs _ _ _ hy]
    exact h2
  | _ => exact hs

theorem LIs.mono {β β' : Adr} (h : Adr.le β β') : ∀ {l : List (SV A)} {vs}, LIs β l vs → LIs β' l vs
  | [], _, e => e
  | _ :: _, _, ⟨x, y, h1, h2, e⟩ => ⟨x, y, h1.mono h, LIs.mono h h2, e⟩

theorem VIs.mono {β β' : Adr} (h : Adr.le β β') {g : Bool} {l : List (SV A)} {v : Value} (hv : VIs β g l v) : VIs β' g l v := by
  cases g with
  | true => obtain ⟨vs, h1, h2⟩ := hv; exact ⟨vs, h1.mono h, h2⟩
  | false => exact LIs.mono h hv

theorem PsIs.mono {β β' : Adr} (h : Adr.le β β') : ∀ {l : List (Bool × List (SV A))} {vs}, PsIs β l vs → PsIs β' l vs
  | [], _, e => e
  | _ :: _, _, ⟨v, r, h1, h2, e⟩ => ⟨v, r, h1.mono h, PsIs.mono h h2, e⟩

theorem TV.Is.mono {β β' : Adr} (h : Adr.le β β') {t : TV A} {v : Value} (ht : t.Is β v) : t.Is β' v := by
  cases t with
  | val g l => exact VIs.mono h ht
  | tup l => obtain ⟨vs, h1, h2⟩ := ht; exact ⟨vs, h1.mono h, h2⟩
  | any => exact ht

theorem TsIs.mono {β β' : Adr} (h : Adr.le β β') : ∀ {l : List (TV A)} {vs}, TsIs β l vs → TsIs β' l vs
  | [], _, e => e
  | _ :: _, _, ⟨v, r, h1, h2, e⟩ => ⟨v, r, h1.mono h, TsIs.mono h h2, e⟩

theorem SV.Is.extern {β : Adr} {a : Option Addr} {f : Nat → A} {i n c : Nat} {vs : List Value} (h : (SV.e a f i n c).Is β vs) : ∃ p, vs = [.slice p n c] := by
  cases a with
  | none => obtain ⟨rfl, rfl, h⟩ := h; exact ⟨none, h⟩
  | some a => obtain ⟨p, _, _, h⟩ := h; exact ⟨some p, h⟩

theorem SV.Is.len {β : Adr} {s : SV A} {vs : List Value} (h : s.Is β vs) : vs.length = s.size := by
  cases s with
  | v x => obtain ⟨rfl, _⟩ := h; rfl
  | n k x => obtain rfl := h; rfl
  | b x => obtain rfl := h; rfl
  | p i off => obtain ⟨b, _, rfl⟩ := h; rfl
  | s i off len cap => obtain ⟨b, _, rfl⟩ := h; rfl
  | f g cap => obtain ⟨cs, _, rfl⟩ := h; rfl
  | a x => obtain rfl := h; exact Atom.len x
  | r i off len z => obtain ⟨_, b, _, rfl⟩ := h; rfl
  | e a f i n c => obtain ⟨p, rfl⟩ := h.extern; rfl
  | q a f i => obtain ⟨b, _, rfl⟩ := h; rfl
  | y i => obtain ⟨b, _, rfl⟩ := h; rfl
  | w k x => obtain rfl := h; rfl
  | kn f i n sz => obtain ⟨_, _, rfl⟩ := (h : knownIs β f i n sz vs).single; rfl
  | ka f i k => obtain ⟨p, rfl, _⟩ := h; rfl
  | gr i v off d n => obtain ⟨_, _, rfl⟩ := (h : growsIs off d n vs (β.gs i v)).single; rfl
  | ga i v off => obtain ⟨_, _, _, rfl⟩ := (h : growsAt off vs (β.gs i v)).some; rfl
  | mk v n => exact h.elim
  | tx l => obtain rfl := h; rfl

theorem SV.Is.one {β : Adr} {s : SV A} {vs : List Value} (h : s.Is β vs) : ∀ v ∈ vs, v.oneCell' = true := by
  intro v hv
  cases s with
  | v x => obtain ⟨rfl, h1⟩ := h; simp at hv; subst hv; exact h1
  | n k x => obtain rfl := h; simp at hv; subst hv; rfl
  | b x => obtain rfl := h; simp at hv; subst hv; rfl
  | p i off => obtain ⟨b, _, rfl⟩ := h; simp at hv; subst hv; rfl
  | s i off len cap => obtain ⟨b, _, rfl⟩ := h; simp at hv; subst hv; rfl
  | f g cap => obtain ⟨cs, _, rfl⟩ := h; simp at hv; subst hv; rfl
  | a x => obtain rfl := h; exact Atom.one x v hv
  | r i off len z => obtain ⟨_, b, _, rfl⟩ := h; simp at hv; subst hv; rfl
  | e a f i n c => obtain ⟨p, rfl⟩ := h.extern; simp at hv; subst hv; rfl
  | q a f i => obtain ⟨b, _, rfl⟩ := h; simp at hv; subst hv; rfl
  | y i => obtain ⟨b, _, rfl⟩ := h; simp at hv; subst hv; rfl
  | w k x => obtain rfl := h; simp at hv; subst hv; rfl
  | kn f i n sz => obtain ⟨_, _, rfl⟩ := (h : knownIs β f i n sz vs).single; simp at hv; subst hv; rfl
  | ka f i k => obtain ⟨p, rfl, _⟩ := h; simp at hv; subst hv; rfl
  | gr i w off d n => obtain ⟨_, _, rfl⟩ := (h : growsIs off d n vs (β.gs i w)).single; simp at hv; subst hv; rfl
  | ga i w off => obtain ⟨_, _, _, rfl⟩ := (h : growsAt off vs (β.gs i w)).some; simp at hv; subst hv; rfl
  | mk w n => exact h.elim
  | tx l => obtain rfl := h; simp at hv; subst hv; rfl

theorem LIs.len {β : Adr} : ∀ {l : List (SV A)} {vs}, LIs β l vs → vs.length = lsize l
  | [], _, e => by subst e; rfl
  | _ :: _, _, ⟨x, y, h1, h2, e⟩ => by subst e; simp [lsize, h1.len, LIs.len h2]

theorem LIs.one {β : Adr} : ∀ {l : List (SV A)} {vs}, LIs β l vs → ∀ v ∈ vs, v.oneCell' = true
  | [], _, e => by subst e; intro v hv; cases hv
  | _ :: _, _, ⟨x, y, h1, h2, e⟩ => by
    subst e
    intro v hv
    rcases List.mem_append.1 hv with h | h
    · exact h1.one v h
    · exact LIs.one h2 v h

theorem LIs.append {β : Adr} : ∀ {l r : List (SV A)} {x y}, LIs β l x → LIs β r y → LIs β (l ++ r) (x ++ y)
  | [], _, _, _, e, h => by subst e; exact h
  | _ :: _, _, _, _, ⟨x, y, h1, h2, e⟩, h => by
    subst e
    exact ⟨x, _, h1, LIs.append h2 h, by rw [List.append_assoc]⟩

theorem LIs.vs {β : Adr} : ∀ {vs : List Value}, (∀ v ∈ vs, v.oneCell' = true) → LIs (A := A) β (vs.map .v) vs
  | [], _ => rfl
  | v :: vs, h => ⟨[v], vs, ⟨rfl, h v (by simp)⟩, LIs.vs (fun x hx => h x (by simp [hx])), rfl⟩

theorem LIs.atoms {β : Adr} : ∀ l : List A, LIs β (l.map SV.a) (l.map Atom.cells).flatten
  | [] => rfl
  | x :: l => ⟨Atom.cells x, _, rfl, LIs.atoms l, rfl⟩

theorem explode_is {β : Adr} {s : SV A} {vs : List Value} (h : s.Is β vs) : LIs β (explode s) vs := by
  cases s with
  | a x =>
    obtain rfl := h
    simp only [explode]
    split
    · rename_i l hl
      rw [(Atom.parts_ok hl).1]
      exact LIs.atoms l
    · exact LIs.vs (Atom.one x)
  | _ => exact ⟨vs, [], h, rfl, by simp⟩

theorem flat_is {β : Adr} : ∀ {l : List (SV A)} {vs : List Value}, LIs β l vs → LIs β (flat l) vs
  | [], _, h => h
  | s :: l, vs, ⟨x, y, h1, h2, e⟩ => by
    have ih := flat_is h2
    subst e
    cases s with
    | a z =>
      obtain rfl := h1
      simp only [flat]
      split
      · rename_i r hr
        rw [(Atom.parts_ok hr).1]
        exact (LIs.atoms r).append ih
      · exact ⟨_, y, rfl, ih, rfl⟩
    | _ => exact ⟨x, y, h1, ih, rfl⟩

theorem atomOf_is {β : Adr} {s : SV A} {vs : List Value} {x : A} (h : s.Is β vs) (e : atomOf s = some x) : vs = Atom.cells x := by
  unfold atomOf at e
  split at e
  · simp at e; subst e; exact h
  · rename_i k z
    split at e
    · rename_i hw
      have := Atom.wrap_ok e
      rw [this, hw]
      exact h.1
    · cases e
  · cases e

theorem atomsOf_is {β : Adr} : ∀ {l : List (SV A)} {vs : List Value} {r : List A}, LIs β l vs → atomsOf l = some r → vs = (r.map Atom.cells).flatten
  | [], vs, r, h, e => by simp [atomsOf] at e; subst e; exact h
  | s :: l, vs, r, ⟨x, y, h1, h2, e'⟩, e => by
    simp only [atomsOf] at e
    split at e
    · rename_i a r' ha hr
      simp at e; subst e; subst e'
      rw [atomOf_is h1 ha, atomsOf_is h2 hr]
      rfl
    · cases e

theorem rowA_is {β : Adr} {l : List (SV A)} {vs : List Value} {x : A} (h : LIs β l vs) (e : rowA l = some x) : vs = Atom.cells x := by
  unfold rowA at e
  split at e
  · simp at e; subst e
    obtain ⟨u, y, h1, h2, rfl⟩ := h
    obtain rfl : y = [] := h2
    obtain rfl : u = _ := h1
    simp
  · split at e
    · rename_i r hr
      rw [Atom.pack_ok e]
      exact atomsOf_is h hr
    · cases e

theorem LIs.take_drop {β : Adr} : ∀ {l : List (SV A)} {vs} (n : Nat), (∀ s ∈ l, s.size = 1) → LIs β l vs → LIs β (l.take n) (vs.take n) ∧ LIs β (l.drop n) (vs.drop n)
  | [], _, n, _, e => by subst e; simp [LIs]
  | _ :: _, _, 0, _, h => by simp only [List.take_zero, List.drop_zero]; exact ⟨rfl, h⟩
  | s :: l, _, n + 1, hs, ⟨x, y, h1, h2, e⟩ => by
    subst e
    have hx : x.length = 1 := by rw [h1.len]; exact hs s (by simp)
    match x, hx with
    | [v], _ =>
      have ih := LIs.take_drop n (fun s' hs' => hs s' (by simp [hs'])) h2
      simp only [List.cons_append, List.nil_append, List.take_succ_cons, List.drop_succ_cons]
      exact ⟨⟨[v], _, h1, ih.1, rfl⟩, ih.2⟩

theorem splitC_is {β : Adr} : ∀ {l : List (SV A)} {vs} {n : Nat} {x y}, LIs β l vs → splitC l n = some (x, y) →
    LIs β x (vs.take n) ∧ LIs β y (vs.drop n) ∧ n ≤ vs.length
  | l, vs, 0, x, y, h, e => by
    have : x = [] ∧ y = l := by cases l <;> (simp [splitC] at e; obtain ⟨rfl, rfl⟩ := e; exact ⟨rfl, rfl⟩)
    obtain ⟨rfl, rfl⟩ := this
    simp only [List.take_zero, List.drop_zero]
    exact ⟨rfl, h, Nat.zero_le _⟩
  | [], _, _ + 1, _, _, _, e => by simp [splitC] at e
  | s :: l, _, n + 1, x, y, ⟨u, w, h1, h2, hv⟩, e => by
    subst hv
    unfold splitC at e
    have hu := h1.len
    split at e
    · rename_i hle
      split at e
      · rename_i x' y' he
        simp at e
        obtain ⟨rfl, rfl⟩ := e
        have ih := splitC_is h2 he
        rw [List.take_append, List.drop_append]
        have e1 : u.take (n + 1) = u := List.take_of_length_le (by omega)
        have e2 : u.drop (n + 1) = [] := List.drop_of_length_le (by omega)
        rw [e1, e2, hu]
        refine ⟨⟨u, _, h1, ih.1, rfl⟩, by simpa using ih.2.1, ?_⟩
        simp; omega
      · cases e
    · rename_i hlt
      simp at e
      obtain ⟨rfl, rfl⟩ := e
      have hex := explode_is h1
      have hone : ∀ s' ∈ explode s, s'.size = 1 := by
        intro s' hs'
        cases s with
        | a x =>
          simp only [explode] at hs'
          split at hs'
          · rename_i r hr
            obtain ⟨v, hv, rfl⟩ := List.mem_map.1 hs'
            exact (Atom.parts_ok hr).2 v hv
          · obtain ⟨v, _, rfl⟩ := List.mem_map.1 hs'
            rfl
        | _ => simp only [explode, List.mem_singleton] at hs'; subst hs'; rfl
      have htd := LIs.take_drop (n + 1) hone hex
      rw [List.take_append, List.drop_append]
      have hz : n + 1 - u.length = 0 := by omega
      rw [hz]
      simp only [List.take_zero, List.append_nil, List.drop_zero]
      refine ⟨htd.1, htd.2.append h2, ?_⟩
      simp; omega

theorem cut_is {β : Adr} {l x : List (SV A)} {vs : List Value} {off n : Nat} (h : LIs β l vs) (e : cut l off n = some x) :
    LIs β x ((vs.drop off).take n) ∧ off + n ≤ vs.length := by
  unfold cut at e
  split at e
  · rename_i u r hr
    split at e
    · rename_i x' y hx
      simp at e
      subst e
      obtain ⟨_, h2, h3⟩ := splitC_is h hr
      obtain ⟨h4, _, h5⟩ := splitC_is h2 hx
      refine ⟨h4, ?_⟩
      simp at h5
      omega
    · cases e
  · cases e

theorem over_is {β : Adr} {l x y : List (SV A)} {vs us : List Value} {off : Nat} (h : LIs β l vs) (hx : LIs β x us) (e : over l off x = some y) :
    LIs β y (vs.take off ++ us ++ vs.drop (off + us.length)) ∧ off + us.length ≤ vs.length := by
  unfold over at e
  split at e
  · rename_i u r hr
    split at e
    · rename_i x' r' hx'
      simp at e
      subst e
      obtain ⟨h1, h2, h3⟩ := splitC_is h hr
      obtain ⟨_, h4, h5⟩ := splitC_is h2 hx'
      rw [← hx.len] at h4 h5
      rw [List.drop_drop] at h4
      refine ⟨?_, ?_⟩
      · rw [List.append_assoc]
        exact h1.append (hx.append h4)
      · simp at h5
        omega
    · cases e
  · cases e

theorem nth_eq {α : Type} : ∀ (l : List α) (i : Nat), nth l i = l[i]?
  | [], _ => by simp [nth]
  | _ :: _, 0 => by simp [nth]
  | _ :: l, n + 1 => by simp [nth, nth_eq l n]

theorem setN_eq {α : Type} : ∀ (l : List α) (i : Nat) (y : α), setN l i y = l.set i y
  | [], _, _ => by simp [setN]
  | _ :: _, 0, _ => by simp [setN]
  | _ :: l, n + 1, y => by simp [setN, setN_eq l n]

theorem TsIs.nth {β : Adr} : ∀ {l : List (TV A)} {vs} {i : Nat} {t}, TsIs β l vs → Sh.nth l i = some t → ∃ v, vs[i]? = some v ∧ t.Is β v
  | [], _, _, _, _, h => by simp [Sh.nth] at h
  | _ :: _, _, 0, t, ⟨v, r, h1, _, e⟩, h => by
    subst e
    simp [Sh.nth] at h
    subst h
    exact ⟨v, by simp, h1⟩
  | _ :: l, _, n + 1, t, ⟨v, r, _, h2, e⟩, h => by
    subst e
    simp only [Sh.nth] at h
    obtain ⟨u, hu, ht⟩ := TsIs.nth h2 h
    exact ⟨u, by simpa using hu, ht⟩

theorem TsIs.set {β : Adr} : ∀ {l : List (TV A)} {vs} {i : Nat} {t v}, TsIs β l vs → t.Is β v → TsIs β (setN l i t) (vs.set i v)
  | [], _, _, _, _, e, _ => by subst e; simp [setN, TsIs]
  | _ :: _, _, 0, t, v, ⟨u, r, _, h2, e⟩, h => by subst e; exact ⟨v, r, h, h2, by simp⟩
  | _ :: l, _, n + 1, t, v, ⟨u, r, h1, h2, e⟩, h => by subst e; exact ⟨u, _, h1, TsIs.set h2 h, by simp⟩

theorem PsIs.nth {β : Adr} : ∀ {l : List (Bool × List (SV A))} {vs} {i : Nat} {t}, PsIs β l vs → Sh.nth l i = some t → ∃ v, vs[i]? = some v ∧ VIs β t.1 t.2 v
  | [], _, _, _, _, h => by simp [Sh.nth] at h
  | _ :: _, _, 0, t, ⟨v, r, h1, _, e⟩, h => by
    subst e
    simp [Sh.nth] at h
    subst h
    exact ⟨v, by simp, h1⟩
  | _ :: l, _, n + 1, t, ⟨v, r, _, h2, e⟩, h => by
    subst e
    simp only [Sh.nth] at h
    obtain ⟨u, hu, ht⟩ := PsIs.nth h2 h
    exact ⟨u, by simpa using hu, ht⟩

/-- W' is W with new blocks, and with X's blocks written. -/
structure Ext (X : Nat → Prop) (W W' : World) : Prop where
  os : W'.os = W.os
  tape : W'.tape = W.tape
  output : W'.output = W.output
  size : W.heap.size ≤ W'.heap.size
  block : ∀ k, k < W.heap.size → ¬ X k → W'.heap[k]? = W.heap[k]?

abbrev Keeps (W W' : World) : Prop := Ext (fun _ => False) W W'

theorem Ext.refl (X : Nat → Prop) (W : World) : Ext X W W := ⟨rfl, rfl, rfl, Nat.le_refl _, fun _ _ _ => rfl⟩
theorem Ext.trans {X : Nat → Prop} {a b c : World} (h : Ext X a b) (k : Ext X b c) : Ext X a c :=
  ⟨k.os.trans h.os, k.tape.trans h.tape, k.output.trans h.output, Nat.le_trans h.size k.size, fun i hi hx => (k.block i (Nat.lt_of_lt_of_le hi h.size) hx).trans (h.block i hi hx)⟩
theorem Ext.mono {X Y : Nat → Prop} {a b : World} (h : Ext X a b) (hxy : ∀ k, k < a.heap.size → X k → Y k) : Ext Y a b :=
  ⟨h.os, h.tape, h.output, h.size, fun i hi hy => h.block i hi (fun hx => hy (hxy i hi hx))⟩
theorem Keeps.ext {X : Nat → Prop} {a b : World} (h : Keeps a b) : Ext X a b := Ext.mono h (fun _ _ hx => hx.elim)
theorem Keeps.below {a b : World} (h : Keeps a b) : Below a.heap.size a b := ⟨h.os, h.tape, h.output, h.size, fun k hk => h.block k hk id⟩
theorem Keeps.of_below {a b : World} (h : Below a.heap.size a b) : Keeps a b := ⟨h.os, h.tape, h.output, h.size, fun k hk _ => h.block k hk⟩
theorem Keeps.refl (a : World) : Keeps a a := Ext.refl _ _
theorem Keeps.drew (a : World) : Keeps a a.drew := ⟨rfl, rfl, rfl, Nat.le_refl _, fun _ _ _ => rfl⟩
theorem Keeps.alloc (a : World) (o : Obj) : Keeps a (a.alloc o) :=
  ⟨rfl, rfl, rfl, by show a.heap.size ≤ (a.heap.push o).size; simp, fun k hk _ => by show (a.heap.push o)[k]? = _; rw [Array.getElem?_push, if_neg (by omega)]⟩

/-- A growing slice, where it lies. -/
structure VecAt (P : Program) (own : Nat → Prop) (β : Adr) (W : World) (i v n : Nat) (l : List (SV A)) (ty : TypeId) : Prop where
  free : β i = none
  last : ∀ v', v < v' → β.gs i v' = none
  lies : ∃ bo cap vs sz, β.gs i v = some (bo, cap) ∧ sizeT P ty = some sz ∧ LIs β l vs ∧ vs.length = n * sz ∧ n ≤ cap ∧
    ∀ b, bo = some b → own b ∧ ∃ tail, W.heap[b]? = some (.cells (vs ++ tail).toArray ty (0, 0)) ∧ (vs ++ tail).length = cap * sz
  nil : ∀ cap, β.gs i v = some (none, cap) → n = 0 ∧ cap = 0

/-- Block b is that of the growing slice i. -/
def vecIn (β : Adr) (m : Mem A) (i b : Nat) : Prop := ∃ blk v n l cap, nth m i = some (some blk) ∧ blk.vec = some (v, n, l) ∧ β.gs i v = some (some b, cap)

/-- Block b is that of the writable block i, or of the growing slice i. -/
def wrt (β : Adr) (m : Mem A) (i b : Nat) : Prop := (∃ blk, nth m i = some (some blk) ∧ blk.vec = none ∧ blk.ro = false ∧ β i = some b) ∨ vecIn β m i b

/-- The memory of a shadow state, in a world. -/
structure MRel (c : Cfg A) (X : Nat → Prop) (W0 : World) (β : Adr) (m : Mem A) (W : World) : Prop where
  mem : ∀ i blk, nth m i = some (some blk) → blk.vec = none → ∃ b vs fz, β i = some b ∧ LIs β blk.cells vs ∧ W.heap[b]? = some (.cells vs.toArray blk.ty fz) ∧
    (blk.ro = false → fz = (0, 0) ∧ (W0.heap.size ≤ b ∨ X b))
  inj : ∀ i j bi bj b, nth m i = some (some bi) → nth m j = some (some bj) → β i = some b → β j = some b → i = j
  dom : ∀ i b, β i = some b → b < W.heap.size
  ext : Ext X W0 W
  glob : ∀ g i, c.gl g = some i → β i = some g
  old : ∀ a v, c.old a = some v → W0.cell? a = some v ∧ a.block < W0.heap.size ∧ ¬ X a.block
  nc : ∀ k, β.kp k → W.heap[k]? = some (.deferred (some [])) ∧ (W0.heap.size ≤ k ∨ X k)
  kn : ∀ a v, β.kn a v → W.cell? a = some v ∧ (W0.heap.size ≤ a.block ∨ X a.block) ∧ ∀ i, ¬ wrt β m i a.block
  vec : ∀ i blk v n l, nth m i = some (some blk) → blk.vec = some (v, n, l) → VecAt c.P (fun b => W0.heap.size ≤ b ∨ X b) β W i v n l blk.ty
  sep : ∀ i b, vecIn β m i b → ∀ j, (∀ blk, nth m j = some (some blk) → β j ≠ some b) ∧ (vecIn β m j b → i = j)

theorem cell?_heap {W : World} {a : Addr} {v : Value} (h : W.cell? a = some v) : ∃ cs t fz, W.heap[a.block]? = some (.cells cs t fz) := by
  unfold World.cell? at h
  split at h
  · rename_i cs t fz hh
    exact ⟨cs, t, fz, hh⟩
  · cases h

theorem cell?_lt {W : World} {a : Addr} {v : Value} (h : W.cell? a = some v) : a.block < W.heap.size := by
  obtain ⟨_, _, _, h⟩ := cell?_heap h
  exact (Array.getElem?_eq_some_iff.1 h).1

theorem cell?_same {W W' : World} {a : Addr} {v : Value} (h : W.cell? a = some v) (e : W'.heap[a.block]? = W.heap[a.block]?) : W'.cell? a = some v := by
  rw [World.cell?_of_block e]; exact h

theorem VecAt.kept {P : Program} {own own' : Nat → Prop} {β : Adr} {W W' : World} {i v n : Nat} {l : List (SV A)} {ty : TypeId} (h : VecAt P own β W i v n l ty) (ho : ∀ b cap, β.gs i v = some (some b, cap) → own b → own' b)
    (hk : ∀ b cap, β.gs i v = some (some b, cap) → W'.heap[b]? = W.heap[b]?) : VecAt P own' β W' i v n l ty := by
  refine ⟨h.free, h.last, ?_, h.nil⟩
  obtain ⟨bo, cap, vs, sz, h1, h2, h3, h4, h5, h6⟩ := h.lies
  refine ⟨bo, cap, vs, sz, h1, h2, h3, h4, h5, fun b hb => ?_⟩
  obtain ⟨k1, tail, k2, k3⟩ := h6 b hb
  subst hb
  exact ⟨ho b cap h1 k1, tail, by rw [hk b cap h1]; exact k2, k3⟩

theorem VecAt.mono {P : Program} {own : Nat → Prop} {β β' : Adr} {W : World} {i v n : Nat} {l : List (SV A)} {ty : TypeId} (h : VecAt P own β W i v n l ty) (hle : Adr.le β β') (hf : β' i = none) (hl : ∀ v', v < v' → β'.gs i v' = none) : VecAt P own β' W i v n l ty := by
  obtain ⟨bo, cap, vs, sz, h1, h2, h3, h4, h5, h6⟩ := h.lies
  refine ⟨hf, hl, ⟨bo, cap, vs, sz, hle.gs _ _ _ h1, h2, h3.mono hle, h4, h5, h6⟩, fun cap' hc => ?_⟩
  have := (hle.gs _ _ _ h1).symm.trans hc
  simp only [Option.some.injEq, Prod.mk.injEq] at this
  obtain ⟨rfl, rfl⟩ := this
  exact h.nil _ h1

theorem vecIn.block {c : Cfg A} {X : Nat → Prop} {W0 W : World} {β : Adr} {m : Mem A} (h : MRel c X W0 β m W) {i b : Nat} (hv : vecIn β m i b) : ∃ cs t, W.heap[b]? = some (.cells cs t (0, 0)) ∧ (W0.heap.size ≤ b ∨ X b) := by
  obtain ⟨blk, v, n, l, cap, h1, h2, h3⟩ := hv
  obtain ⟨bo, cap', vs, sz, k1, k2, k3, k4, k5, k6⟩ := (h.vec i blk v n l h1 h2).lies
  have := k1.symm.trans h3
  simp only [Option.some.injEq, Prod.mk.injEq] at this
  obtain ⟨rfl, rfl⟩ := this
  obtain ⟨g1, tail, g2, g3⟩ := k6 b rfl
  exact ⟨_, _, g2, g1⟩

theorem wrt.block {c : Cfg A} {X : Nat → Prop} {W0 W : World} {β : Adr} {m : Mem A} (h : MRel c X W0 β m W) {i b : Nat} (hv : wrt β m i b) : ∃ cs t, W.heap[b]? = some (.cells cs t (0, 0)) ∧ (W0.heap.size ≤ b ∨ X b) := by
  rcases hv with ⟨blk, h1, h2, h3, h4⟩ | hv
  · obtain ⟨b', vs, fz, g1, g2, g3, g4⟩ := h.mem i blk h1 h2
    have : b' = b := Option.some.inj (g1.symm.trans h4)
    subst this
    obtain ⟨rfl, g5⟩ := g4 h3
    exact ⟨_, _, g3, g5⟩
  · exact hv.block h

theorem wrt.lt {c : Cfg A} {X : Nat → Prop} {W0 W : World} {β : Adr} {m : Mem A} (h : MRel c X W0 β m W) {i b : Nat} (hv : wrt β m i b) : b < W.heap.size := by
  obtain ⟨_, _, h1, _⟩ := hv.block h
  exact (Array.getElem?_eq_some_iff.1 h1).1

/-- A block that is at a place is none that grows. -/
theorem MRel.plain {c : Cfg A} {X : Nat → Prop} {W0 W : World} {β : Adr} {m : Mem A} (h : MRel c X W0 β m W) {i b : Nat} {blk : Blk A} (hi : nth m i = some (some blk)) (hb : β i = some b) : blk.vec = none := by
  cases e : blk.vec with
  | none => rfl
  | some x =>
    obtain ⟨v, n, l⟩ := x
    have := (h.vec i blk v n l hi e).free
    rw [hb] at this
    cases this

/-- What lies at a place. -/
theorem MRel.at {c : Cfg A} {X : Nat → Prop} {W0 W : World} {β : Adr} {m : Mem A} (h : MRel c X W0 β m W) {i b : Nat} {blk : Blk A} (hi : nth m i = some (some blk)) (hb : β i = some b) :
    ∃ vs fz, LIs β blk.cells vs ∧ W.heap[b]? = some (.cells vs.toArray blk.ty fz) ∧ (blk.ro = false → fz = (0, 0) ∧ (W0.heap.size ≤ b ∨ X b)) := by
  obtain ⟨b', vs, fz, g1, g2, g3, g4⟩ := h.mem i blk hi (h.plain hi hb)
  have : b' = b := Option.some.inj (g1.symm.trans hb)
  subst this
  exact ⟨vs, fz, g2, g3, g4⟩

/-- The same, in the words of the memory. -/
theorem MRel.mem' {c : Cfg A} {X : Nat → Prop} {W0 W : World} {β : Adr} {m : Mem A} (h : MRel c X W0 β m W) {i b : Nat} {blk : Blk A} (hi : nth m i = some (some blk)) (hb : β i = some b) :
    ∃ b vs fz, β i = some b ∧ LIs β blk.cells vs ∧ W.heap[b]? = some (.cells vs.toArray blk.ty fz) ∧ (blk.ro = false → fz = (0, 0) ∧ (W0.heap.size ≤ b ∨ X b)) :=
  h.mem i blk hi (h.plain hi hb)

theorem vecIn.of {β : Adr} {m m' : Mem A} (live : ∀ i blk, nth m' i = some (some blk) → nth m i = some (some blk)) {i b : Nat} (h : vecIn β m' i b) : vecIn β m i b := by
  obtain ⟨blk, v, n, l, cap, h1, h2, h3⟩ := h
  exact ⟨blk, v, n, l, cap, live _ _ h1, h2, h3⟩
theorem wrt.of {β : Adr} {m m' : Mem A} (live : ∀ i blk, nth m' i = some (some blk) → nth m i = some (some blk)) {i b : Nat} (h : wrt β m' i b) : wrt β m i b := by
  rcases h with ⟨blk, h1, h2⟩ | h
  · exact .inl ⟨blk, live _ _ h1, h2⟩
  · exact .inr (h.of live)

/-- A part of the memory. -/
theorem MRel.live {c : Cfg A} {X : Nat → Prop} {W0 W : World} {β : Adr} {m m' : Mem A} (h : MRel c X W0 β m W) (live : ∀ i blk, nth m' i = some (some blk) → nth m i = some (some blk)) : MRel c X W0 β m' W :=
  ⟨fun i blk hi => h.mem i blk (live _ _ hi), fun i j bi bj b li lj => h.inj i j bi bj b (live _ _ li) (live _ _ lj), h.dom, h.ext, h.glob, h.old, h.nc,
    fun a v hk => ⟨(h.kn a v hk).1, (h.kn a v hk).2.1, fun i hw => (h.kn a v hk).2.2 i (hw.of live)⟩, fun i blk v n l hi => h.vec i blk v n l (live _ _ hi),
    fun i b hv j => ⟨fun blk hj => (h.sep i b (hv.of live) j).1 blk (live _ _ hj), fun hv' => (h.sep i b (hv.of live) j).2 (hv'.of live)⟩⟩

theorem MRel.keeps {c : Cfg A} {X : Nat → Prop} {W0 : World} {β : Adr} {m : Mem A} {W W' : World} (h : MRel c X W0 β m W) (k : Keeps W W') : MRel c X W0 β m W' where
  mem := fun i blk hi hv => by
    obtain ⟨b, vs, fz, h1, h2, h3, h4⟩ := h.mem i blk hi hv
    exact ⟨b, vs, fz, h1, h2, by rw [k.block b (h.dom i b h1) id]; exact h3, h4⟩
  inj := h.inj
  dom := fun i b hi => Nat.lt_of_lt_of_le (h.dom i b hi) k.size
  ext := h.ext.trans k.ext
  glob := h.glob
  old := h.old
  nc := fun j hj => by
    have := h.nc j hj
    rw [k.block j (Array.getElem?_eq_some_iff.1 this.1).1 id]
    exact this
  kn := fun a v hk => by
    obtain ⟨h1, h2, h3⟩ := h.kn a v hk
    exact ⟨cell?_same h1 (k.block _ (cell?_lt h1) id), h2, h3⟩
  vec := fun i blk v n l hi hv => (h.vec i blk v n l hi hv).kept (fun _ _ _ h => h) (fun b cap hb => k.block b (wrt.lt h (.inr ⟨blk, v, n, l, cap, hi, hv, hb⟩)) id)
  sep := h.sep

/-- New cells that hold for good. -/
def Fresh (W W' : World) (K : Addr → Value → Prop) : Prop := ∀ a v, K a v → W'.cell? a = some v ∧ W.heap.size ≤ a.block
theorem Fresh.none (W W' : World) : Fresh W W' (fun _ _ => False) := fun _ _ h => h.elim

theorem wrt.know {β : Adr} {m : Mem A} {K : Addr → Value → Prop} {i b : Nat} : wrt (β.know K) m i b ↔ wrt β m i b := Iff.rfl

theorem MRel.know {c : Cfg A} {X : Nat → Prop} {W0 : World} {β : Adr} {m : Mem A} {W W' : World} (h : MRel c X W0 β m W) (k : Keeps W W') {K : Addr → Value → Prop} (hK : Fresh W W' K) : MRel c X W0 (β.know K) m W' := by
  have h' := h.keeps k
  have hle := Adr.le_know β K
  refine ⟨fun i blk hi hv => ?_, h'.inj, h'.dom, h'.ext, h'.glob, h'.old, h'.nc, fun a v hk => ?_, fun i blk v n l hi hv => (h'.vec i blk v n l hi hv).mono hle (h'.vec i blk v n l hi hv).free (h'.vec i blk v n l hi hv).last, h'.sep⟩
  · obtain ⟨b, vs, fz, h1, h2, h3, h4⟩ := h'.mem i blk hi hv
    exact ⟨b, vs, fz, h1, h2.mono hle, h3, h4⟩
  · rcases hk with hk | hk
    · exact h'.kn a v hk
    · obtain ⟨h1, h2⟩ := hK a v hk
      exact ⟨h1, .inl (Nat.le_trans h.ext.size h2), fun i hw => by have := wrt.lt h hw; omega⟩

theorem MRel.cell {c : Cfg A} {X : Nat → Prop} {W0 : World} {β : Adr} {m : Mem A} {W : World} (h : MRel c X W0 β m W) {a : Addr} {v : Value} (e : c.old a = some v) : W.cell? a = some v := by
  obtain ⟨h1, h2, h3⟩ := h.old a v e
  rw [← h1]
  exact World.cell?_of_block (w := W0) (h.ext.block a.block h2 h3)

/-- The calls that a frame has put off: none. -/
def Defs (ok : Nat → Prop) (β : Adr) : List Deferred → Prop
  | [] => True
  | d :: ds => (∃ D, d = { target := .collected D, args := #[] } ∧ β.kp D ∧ ok D ∧ ∀ d' ∈ ds, d' ≠ d) ∧ Defs ok β ds
theorem Defs.mono {ok : Nat → Prop} {β β' : Adr} (h : Adr.le β β') : ∀ {ds : List Deferred}, Defs ok β ds → Defs ok β' ds
  | [], _ => trivial
  | _ :: _, ⟨⟨D, h1, h2, h3⟩, h4⟩ => ⟨⟨D, h1, h.kp D h2, h3⟩, Defs.mono h h4⟩

/-- The slots of a shadow state, in a frame. -/
structure TRel (β : Adr) (t : List (TV A)) (a : Act) : Prop where
  tmps : TsIs β t a.tmps.toList

/-- Beyond the memory's end no block has a place. -/
def Top (β : Adr) (m : Mem A) : Prop := ∀ i, m.length ≤ i → β i = none ∧ ∀ v, β.gs i v = none

/-- What holds no cells lies as it lay. -/
abbrev NC (W W' : World) : Prop := ∀ (k : Nat) (o : Obj), W.heap[k]? = some o → o.isCells = false → W'.heap[k]? = some o
theorem NC.refl (W : World) : NC W W := fun _ _ h _ => h
theorem NC.trans {a b c : World} (h : NC a b) (k : NC b c) : NC a c := fun i o hi ho => k i o (h i o hi ho) ho
theorem Keeps.nc {W W' : World} (h : Keeps W W') : NC W W' := fun k _ hk _ => (h.block k (Array.getElem?_eq_some_iff.1 hk).1 id).trans hk

/-- The record of a loop over a function that is under way. -/
def YAt (X : Nat → Prop) (W0 : World) (β : Adr) (s : Ys A) (e : Option Ex) (W : World) : Prop :=
  ∃ (l : Nat) (rec : Loop), β s.ix = some l ∧ W.heap[l]? = some (.loop rec) ∧ (W0.heap.size ≤ l ∨ X l) ∧ rec.params.toList = s.ps ∧ rec.assign = s.assign ∧ rec.body = s.body ∧ TsIs β s.t rec.tmps.toList ∧
    (match e with
     | none => rec.state = .ready ∧ rec.pending = none
     | some e => rec.state = .done ∧ rec.pending = some e.code)

def YAll (X : Nat → Prop) (W0 : World) (β : Adr) : List (Ys A) → Pds → World → Prop
  | [], [], _ => True
  | s :: ss, e :: es, W => YAt X W0 β s e W ∧ (∀ s' ∈ ss, β s'.ix ≠ β s.ix) ∧ YAll X W0 β ss es W
  | _, _, _ => False

theorem YAt.kept {X : Nat → Prop} {W0 : World} {β β' : Adr} {s : Ys A} {e : Option Ex} {W W' : World} (h : YAt X W0 β s e W) (hle : Adr.le β β') (hn : ∀ l r, β s.ix = some l → W.heap[l]? = some (.loop r) → W'.heap[l]? = some (.loop r)) : YAt X W0 β' s e W' := by
  obtain ⟨l, rec, h1, h2, h3, h4, h5, h6, h7, h8⟩ := h
  exact ⟨l, rec, hle.pl _ _ h1, hn l rec h1 h2, h3, h4, h5, h6, h7.mono hle, h8⟩

theorem YAll.has {X : Nat → Prop} {W0 : World} {β : Adr} {W : World} : ∀ {ss : List (Ys A)} {es : Pds}, YAll X W0 β ss es W → ∀ s ∈ ss, ∃ e, YAt X W0 β s e W
  | s :: ss, e :: es, ⟨h1, _, h3⟩, s', hs' => by
    rcases List.mem_cons.1 hs' with rfl | hs'
    · exact ⟨e, h1⟩
    · exact YAll.has h3 s' hs'
  | [], _, _, _, h => by cases h
  | _ :: _, [], h, _, _ => h.elim

theorem YAll.kept' {X : Nat → Prop} {W0 : World} {β β' : Adr} (hle : Adr.le β β') {W W' : World} : ∀ {ss : List (Ys A)} {es : Pds}, YAll X W0 β ss es W →
    (∀ s ∈ ss, ∀ l r, β s.ix = some l → W.heap[l]? = some (.loop r) → W'.heap[l]? = some (.loop r)) → YAll X W0 β' ss es W'
  | [], [], _, _ => trivial
  | s :: ss, e :: es, ⟨h1, h2, h3⟩, hn => by
    have hs := h1
    refine ⟨h1.kept hle (hn s (by simp)), fun s' hs' => ?_, YAll.kept' hle h3 (fun s' hs' => hn s' (by simp [hs']))⟩
    obtain ⟨l, _, k1, _⟩ := hs
    obtain ⟨e', l', _, k2, _⟩ := h3.has s' hs'
    have := h2 s' hs'
    rw [k1, k2] at this
    rw [hle.pl _ _ k1, hle.pl _ _ k2]
    exact this
  | [], _ :: _, h, _ => h.elim
  | _ :: _, [], h, _ => h.elim

theorem YAll.kept {X : Nat → Prop} {W0 : World} {β β' : Adr} {W W' : World} {ss : List (Ys A)} {es : Pds} (h : YAll X W0 β ss es W) (hle : Adr.le β β') (hn : NC W W') : YAll X W0 β' ss es W' :=
  h.kept' hle (fun _ _ l _ _ hl => hn l _ hl rfl)

structure Rel (c : Cfg A) (X : Nat → Prop) (W0 : World) (β : Adr) (st : St A) (a : Act) (W : World) : Prop where
  t : TRel β st.t a
  m : MRel c X W0 β st.m W
  top : Top β st.m
  d : Defs (fun k => W0.heap.size ≤ k ∨ X k) β a.defers
  y : YAll X W0 β c.ys st.pd W

theorem put_defers (a : Act) (d : Option Tmp) (v : Value) : (a.put d v).defers = a.defers := by cases d <;> rfl

theorem TRel.mono {β β' : Adr} (h : Adr.le β β') {t : List (TV A)} {a : Act} (ht : TRel β t a) : TRel β' t a := ⟨ht.tmps.mono h⟩

theorem TRel.put {β : Adr} {st : St A} {a : Act} (h : TRel β st.t a) {d : Option Tmp} {tv : TV A} {v : Value} (hv : tv.Is β v) : TRel β (putT st d tv).t (a.put d v) := by
  cases d with
  | none => exact h
  | some d =>
    refine ⟨?_⟩
    simp only [putT, Act.put, Array.toList_setIfInBounds]
    exact h.tmps.set hv

theorem undefT_is (β : Adr) : (undefT : TV A).Is β undef := ⟨[], rfl, rfl⟩

theorem ofConst_is {β : Adr} {v : Value} {tv : TV A} (h : ofConst v = some tv) : tv.Is β v := by
  unfold ofConst at h
  split at h
  · rename_i cs
    split at h
    · rename_i hall
      simp at h; subst h
      refine ⟨cs.toList, LIs.vs (fun v hv => List.all_eq_true.1 hall v hv), by simp⟩
    · cases h
  · cases h
  · rename_i h1 h2
    simp at h; subst h
    refine ⟨[v], [], ⟨rfl, ?_⟩, rfl, rfl⟩
    cases v <;> first | rfl | exact absurd rfl (h1 _) | exact absurd rfl (h2 _)

theorem evO_is {c : Cfg A} {X : Nat → Prop} {W0 W : World} {β : Adr} {st : St A} {a : Act} (ht : TRel β st.t a) (hm : MRel c X W0 β st.m W) {x : Operand} {tv : TV A}
    (h : evO c st x = some tv) : tv.Is β (a.eval x) := by
  cases x with
  | tmp t =>
    obtain ⟨v, hv, hi⟩ := ht.tmps.nth h
    have : a.eval (.tmp t) = v := by
      simp only [Act.eval]
      simp at hv
      rw [Array.getD_eq_getD_getElem?, hv]; rfl
    rw [this]; exact hi
  | const v => exact ofConst_is h
  | global g =>
    simp only [evO] at h
    split at h
    · rename_i i hg
      simp at h; subst h
      exact ⟨[_], [], ⟨g, hm.glob g i hg, rfl⟩, rfl, rfl⟩
    · cases h
  | func f =>
    simp only [evO] at h
    simp at h; subst h
    exact ⟨[_], [], ⟨[], rfl, rfl⟩, rfl, rfl⟩

theorem evL_is {c : Cfg A} {X : Nat → Prop} {W0 W : World} {β : Adr} {st : St A} {a : Act} (ht : TRel β st.t a) (hm : MRel c X W0 β st.m W) :
    ∀ {l : List Operand} {tvs : List (TV A)}, evL c st l = some tvs → TsIs β tvs (l.map a.eval)
  | [], tvs, h => by simp [evL] at h; subst h; rfl
  | x :: r, tvs, h => by
    simp only [evL] at h
    split at h
    · rename_i v l hv hl
      simp at h; subst h
      exact ⟨_, _, evO_is ht hm hv, evL_is ht hm hl, rfl⟩
    · cases h

/-- One cell. -/
theorem LIs.single {β : Adr} {s : SV A} {v : Value} (h : LIs β [s] [v]) : s.Is β [v] := by
  obtain ⟨x, y, h1, h2, e⟩ := h
  obtain rfl : y = [] := h2
  rw [List.append_nil] at e
  rw [e]; exact h1

theorem LIs.of_single {β : Adr} {s : SV A} {v : Value} (h : s.Is β [v]) : LIs β [s] [v] := ⟨[v], [], h, rfl, rfl⟩

theorem intOfSV_is {β : Adr} {s : SV A} {v : Value} {l : Bool} {k : IntKind} {x : Int} (h : s.Is β [v]) (e : intOfSV s = some (l, k, x)) : v = .int k x := by
  cases s with
  | v y =>
    obtain ⟨hv, _⟩ := h
    simp at hv
    unfold intOfSV at e
    split at e
    · rename_i k' x' hs
      simp at hs; simp at e
      obtain ⟨_, rfl, rfl⟩ := e
      rw [hv, hs]
    all_goals first | (cases e; done) | (rename_i h1; cases h1)
  | n k' x' => simp [intOfSV] at e; obtain ⟨_, rfl, rfl⟩ := e; simp [SV.Is] at h; exact h
  | a y =>
    simp only [intOfSV] at e
    split at e
    · rename_i k' z hz
      simp at e
      obtain ⟨_, rfl, rfl⟩ := e
      have h1 : [v] = Atom.cells y := h
      rw [Atom.int_ok hz] at h1
      simpa using h1
    · cases e
  | _ => simp [intOfSV] at e

theorem intOfSV_size {s : SV A} {x : Bool × IntKind × Int} (h : intOfSV s = some x) : s.size = 1 := by
  cases s with
  | a y =>
    simp only [intOfSV] at h
    split at h
    · rename_i k z hz
      have := Atom.len y
      rw [Atom.int_ok hz] at this
      simpa [SV.size] using this.symm
    · cases h
  | _ => rfl

theorem mkW_is {β : Adr} (l : Bool) (k : IntKind) (x : Int) : (mkW l k x : SV A).Is β [.int k (k.wrap x)] := by
  unfold mkW
  split
  · exact ⟨rfl, rfl⟩
  · split
    · rename_i y hy
      exact (Atom.wrap_ok hy).symm
    · exact rfl

theorem mkB_is {β : Adr} (l : Bool) (x : Bool) : (mkB l x : SV A).Is β [.bool x] := by
  cases l
  · exact rfl
  · exact ⟨rfl, rfl⟩

theorem litOf_is {β : Adr} {t : TV A} {v : Value} {x : Int} (h : t.Is β v) (e : litOf t = some x) : ∃ k, v = .int k x := by
  unfold litOf at e
  split at e
  · rename_i k y
    simp at e; subst e
    obtain ⟨hv, _⟩ := LIs.single h
    simp at hv
    exact ⟨k, hv⟩
  · cases e

theorem addrOf_is {β : Adr} {t : TV A} {v : Value} {i off : Nat} (h : t.Is β v) (e : addrOf t = some (i, off)) : ∃ b, β i = some b ∧ v = .pointer (some ⟨b, off, none⟩) := by
  unfold addrOf at e
  split at e
  · rename_i i' off'
    simp at e
    obtain ⟨rfl, rfl⟩ := e
    obtain ⟨b, hb, hv⟩ := LIs.single h
    simp at hv
    exact ⟨b, hb, hv⟩
  · cases e

theorem cellsT_is {β : Adr} {t : TV A} {v : Value} {l : List (SV A)} (h : t.Is β v) (e : cellsT t = some l) : LIs β l v.cells.toList := by
  unfold cellsT at e
  split at e
  · rename_i g l'
    simp at e; subst e
    cases g with
    | true => obtain ⟨vs, h1, rfl⟩ := h; simpa [Value.cells] using h1
    | false =>
      have hv : LIs β l' [v] := h
      have h1 := hv.one v (by simp)
      cases v <;> first | (simpa [Value.cells] using hv) | (simp [Value.oneCell'] at h1)
  · cases e

theorem boolOf_is {β : Adr} {t : TV A} {v : Value} {b : Bool} (h : t.Is β v) (e : boolOf t = some b) : v = .bool b := by
  unfold boolOf at e
  split at e
  · rename_i b'
    simp at e
    subst e
    obtain ⟨hv, _⟩ := LIs.single h
    simp at hv
    exact hv
  · cases e

theorem decT_is {c : Cfg A} {β : Adr} {rd : Nat} {d : Option Tmp} {t : TV A} {v : Value} (h : t.Is β v) (hvc : ∀ p ∈ (decT c rd d t).2, p) : (decT c rd d t).1.Is β v := by
  unfold decT at hvc ⊢
  split
  · split
    · rename_i x
      split
      · rename_i l hl
        simp only [hl] at hvc
        have h1 : x = l := hvc _ (by simp)
        have hv := LIs.single h
        simp [SV.Is] at hv
        subst h1
        rw [hv]
        exact LIs.of_single ⟨rfl, rfl⟩
      · have hv := LIs.single h
        simp [SV.Is] at hv
        rw [hv]
        cases x <;> exact LIs.of_single ⟨rfl, rfl⟩
      · exact h
    · rename_i k x
      have hv := LIs.single h
      simp [SV.Is] at hv
      cases hn : c.nw with
      | true =>
        simp only [hn] at hvc
        have h1 : k.wrap x = x := hvc _ (by simp)
        rw [hv, h1]
        exact LIs.of_single rfl
      | false =>
        rw [hv]
        exact LIs.of_single rfl
    · exact h
  · exact h

theorem boolSV_is {β : Adr} {s : SV A} {v : Value} {l x : Bool} (h : s.Is β [v]) (e : boolSV s = some (l, x)) : v = .bool x := by
  cases s with
  | v y =>
    obtain ⟨hv, _⟩ := h
    simp at hv
    unfold boolSV at e
    split at e
    · rename_i x' hs
      simp at hs; simp at e
      obtain ⟨_, rfl⟩ := e
      rw [hv, hs]
    all_goals first | (cases e; done) | (rename_i h1; cases h1)
  | b y => simp [boolSV] at e; obtain ⟨_, rfl⟩ := e; simp [SV.Is] at h; exact h
  | _ => simp [boolSV] at e

theorem natOf_eq {x : Int} {n : Nat} (h : natOf x = some n) : x = n := by
  unfold natOf at h
  split at h
  · simp at h; subst h; rfl
  · cases h

end
end Go.Sh
