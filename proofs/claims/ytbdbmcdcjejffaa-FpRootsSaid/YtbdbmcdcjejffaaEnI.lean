/- Contracts of functions that only compute: what they are, how a run on shadows gives one, how they serve in the next run. -/
import Derived.Test.YtbdbmcdcjejffaaEnH
import Derived.Laws.Externs
set_option linter.unusedVariables false
set_option linter.unusedSimpArgs false
set_option linter.unusedSectionVars false
namespace Go.Sh
open Go.RowKit

/-- What stands for many cells. -/
class Big (B : Type) where
  cells : B → List Value
  size : B → Nat
  len : ∀ b, (cells b).length = size b
  one : ∀ b, ∀ v ∈ cells b, v.oneCell' = true
  /-- as words of 64 bits -/
  words : B → Option (List UInt64)
  words_ok : ∀ {b l}, words b = some l → cells b = l.map fun x => .int .u64 x.toNat
  /-- words as one of the kind of another one -/
  like : B → List UInt64 → Option B
  like_ok : ∀ {a l b}, like a l = some b → cells b = l.map fun x => .int .u64 x.toNat

/-- Numbers of a kind, carries, and whatever else. -/
inductive At (B : Type) where
  | u64 (x : UInt64)
  | u32 (x : UInt32)
  | u8 (x : UInt8)
  | cy (x : Bool)
  | big (x : B)
  | w64 (n : Nat) (f : Nat → UInt64)
  | w32 (n : Nat) (f : Nat → UInt32)
  | w8 (n : Nat) (f : Nat → UInt8)

section
variable {B : Type} [Big B]

def At.cells : At B → List Value
  | .u64 x => [.int .u64 x.toNat]
  | .u32 x => [.int .u32 x.toNat]
  | .u8 x => [.int .u8 x.toNat]
  | .cy x => [.int .u64 (cond x 1 0)]
  | .big x => Big.cells x
  | .w64 n f => (List.range n).map fun i => .int .u64 (f i).toNat
  | .w32 n f => (List.range n).map fun i => .int .u32 (f i).toNat
  | .w8 n f => (List.range n).map fun i => .int .u8 (f i).toNat

def At.size : At B → Nat
  | .big x => Big.size x
  | .w64 n _ => n
  | .w32 n _ => n
  | .w8 n _ => n
  | _ => 1

def At.int : At B → Option (IntKind × Int)
  | .u64 x => some (.u64, x.toNat)
  | .u32 x => some (.u32, x.toNat)
  | .u8 x => some (.u8, x.toNat)
  | .cy x => some (.u64, cond x 1 0)
  | _ => none

def At.wrap : IntKind → Int → Option (At B)
  | .u64, z => some (.u64 (UInt64.ofNat (z % 18446744073709551616).toNat))
  | .u32, z => some (.u32 (UInt32.ofNat (z % 4294967296).toNat))
  | .u8, z => some (.u8 (UInt8.ofNat (z % 256).toNat))
  | _, _ => none

def At.shr : At B → Nat → Option (At B)
  | .u64 x, m => some (.u64 (UInt64.ofNat (x.toNat / 2 ^ m)))
  | .u32 x, m => some (.u32 (UInt32.ofNat (x.toNat / 2 ^ m)))
  | .u8 x, m => some (.u8 (UInt8.ofNat (x.toNat / 2 ^ m)))
  | _, _ => none

def At.parts : At B → Option (List (At B))
  | .w64 n f => some ((List.range n).map fun i => .u64 (f i))
  | .w32 n f => some ((List.range n).map fun i => .u32 (f i))
  | .w8 n f => some ((List.range n).map fun i => .u8 (f i))
  | .big x => (match Big.words x with | some l => some (l.map .u64) | none => none)
  | _ => none

def list64 : List (At B) → Option (List UInt64)
  | [] => some []
  | .u64 x :: l => match list64 l with | some r => some (x :: r) | none => none
  | .cy x :: l => match list64 l with | some r => some (cond x 1 0 :: r) | none => none
  | _ => none
def list32 : List (At B) → Option (List UInt32)
  | [] => some []
  | .u32 x :: l => match list32 l with | some r => some (x :: r) | none => none
  | _ => none
def list8 : List (At B) → Option (List UInt8)
  | [] => some []
  | .u8 x :: l => match list8 l with | some r => some (x :: r) | none => none
  | _ => none

/-- The i-th of a list; d beyond. -/
def pickN {α : Type} (d : α) : List α → Nat → α
  | [], _ => d
  | x :: _, 0 => x
  | _ :: l, i + 1 => pickN d l i

def At.pack (l : List (At B)) : Option (At B) :=
  match l with
  | .u8 _ :: _ => match list8 l with | some r => some (.w8 r.length (pickN 0 r)) | none => none
  | .u32 _ :: _ => match list32 l with | some r => some (.w32 r.length (pickN 0 r)) | none => none
  | _ => match list64 l with | some r => some (.w64 r.length (pickN 0 r)) | none => none

def At.get : At B → Nat → Option (At B)
  | .w64 _ f, i => some (.u64 (f i))
  | .w32 _ f, i => some (.u32 (f i))
  | .w8 _ f, i => some (.u8 (f i))
  | .big x, i => (match Big.words x with | some l => some (.u64 (pickN 0 l i)) | none => none)
  | _, _ => none

def At.like : At B → At B → Option (At B)
  | .big a, .w64 n f => (match Big.like a ((List.range n).map f) with | some b => some (.big b) | none => none)
  | .w64 _ _, .big x => (match Big.words x with | some l => some (.w64 l.length (pickN 0 l)) | none => none)
  | _, _ => none

/-- A row with one place written. -/
def upd {α : Type} (f : Nat → α) (i : Nat) (x : α) : Nat → α := fun j => if j = i then x else f j

def At.set : At B → Nat → At B → Option (At B)
  | .w64 n f, i, .u64 x => some (.w64 n (upd f i x))
  | .w64 n f, i, .cy x => some (.w64 n (upd f i (cond x 1 0)))
  | .w32 n f, i, .u32 x => some (.w32 n (upd f i x))
  | .w8 n f, i, .u8 x => some (.w8 n (upd f i x))
  | .big z, i, .u64 x => (match Big.words z with | some l => some (.w64 l.length (upd (pickN 0 l) i x)) | none => none)
  | .big z, i, .cy x => (match Big.words z with | some l => some (.w64 l.length (upd (pickN 0 l) i (cond x 1 0))) | none => none)
  | _, _, _ => none

omit [Big B] in
theorem pickN_at {α : Type} (d : α) : ∀ (l : List α) (i : Nat), i < l.length → l[i]? = some (pickN d l i)
  | x :: _, 0, _ => rfl
  | x :: l, i + 1, h => by simpa [pickN] using pickN_at d l i (by simpa using h)
  | [], _, h => by simp at h

omit [Big B] in
theorem pickN_range {α β : Type} (d : α) (g : α → β) : ∀ l : List α, (List.range l.length).map (fun i => g (pickN d l i)) = l.map g := by
  intro l
  apply List.ext_getElem?
  intro i
  simp only [List.getElem?_map]
  have key := pickN_at d
  rcases Nat.lt_or_ge i l.length with h | h
  · rw [key l i h]; simp [h]
  · simp [h]

theorem list64_cells : ∀ {l : List (At B)} {r : List UInt64}, list64 l = some r → (l.map At.cells).flatten = r.map fun x => Value.int .u64 x.toNat
  | [], r, h => by simp [list64] at h; subst h; rfl
  | .u64 x :: l, r, h => by
    simp only [list64] at h
    split at h
    · rename_i r' hr
      simp at h; subst h
      simp [At.cells, list64_cells hr]
    · cases h
  | .cy x :: l, r, h => by
    simp only [list64] at h
    split at h
    · rename_i r' hr
      simp at h; subst h
      simp only [List.map_cons, List.flatten_cons, list64_cells hr, At.cells]
      cases x <;> rfl
    · cases h
  | .u32 _ :: _, _, h => by simp [list64] at h
  | .u8 _ :: _, _, h => by simp [list64] at h
  | .big _ :: _, _, h => by simp [list64] at h
  | .w64 _ _ :: _, _, h => by simp [list64] at h
  | .w32 _ _ :: _, _, h => by simp [list64] at h
  | .w8 _ _ :: _, _, h => by simp [list64] at h

theorem list32_cells : ∀ {l : List (At B)} {r : List UInt32}, list32 l = some r → (l.map At.cells).flatten = r.map fun x => Value.int .u32 x.toNat
  | [], r, h => by simp [list32] at h; subst h; rfl
  | .u32 x :: l, r, h => by
    simp only [list32] at h
    split at h
    · rename_i r' hr
      simp at h; subst h
      simp [At.cells, list32_cells hr]
    · cases h
  | .u64 _ :: _, _, h => by simp [list32] at h
  | .cy _ :: _, _, h => by simp [list32] at h
  | .u8 _ :: _, _, h => by simp [list32] at h
  | .big _ :: _, _, h => by simp [list32] at h
  | .w64 _ _ :: _, _, h => by simp [list32] at h
  | .w32 _ _ :: _, _, h => by simp [list32] at h
  | .w8 _ _ :: _, _, h => by simp [list32] at h

theorem list8_cells : ∀ {l : List (At B)} {r : List UInt8}, list8 l = some r → (l.map At.cells).flatten = r.map fun x => Value.int .u8 x.toNat
  | [], r, h => by simp [list8] at h; subst h; rfl
  | .u8 x :: l, r, h => by
    simp only [list8] at h
    split at h
    · rename_i r' hr
      simp at h; subst h
      simp [At.cells, list8_cells hr]
    · cases h
  | .u64 _ :: _, _, h => by simp [list8] at h
  | .cy _ :: _, _, h => by simp [list8] at h
  | .u32 _ :: _, _, h => by simp [list8] at h
  | .big _ :: _, _, h => by simp [list8] at h
  | .w64 _ _ :: _, _, h => by simp [list8] at h
  | .w32 _ _ :: _, _, h => by simp [list8] at h
  | .w8 _ _ :: _, _, h => by simp [list8] at h

theorem flat_single {α β : Type} (f : α → List β) (g : α → β) (h : ∀ x, f x = [g x]) : ∀ l : List α, (l.map f).flatten = l.map g
  | [] => rfl
  | x :: l => by simp [h x, flat_single f g h l]

theorem row_set {α : Type} (g : α → Value) (n : Nat) (f : Nat → α) (i : Nat) (x : α) : (List.range n).map (fun j => g (upd f i x j)) = ((List.range n).map fun j => g (f j)).set i (g x) := by
  apply List.ext_getElem?
  intro j
  rw [List.getElem?_set]
  simp only [List.getElem?_map]
  by_cases hj : j < n
  · rw [List.getElem?_range hj]
    by_cases e : i = j
    · subst e; simp [upd, hj]
    · rw [if_neg e]
      have : ¬ j = i := fun h => e h.symm
      simp [upd, this]
  · have h0 : (List.range n)[j]? = none := by simp; omega
    rw [h0]
    simp
    intro e
    subst e
    omega

theorem fdiv_nat (x m : Nat) : ((x : Int).fdiv (2 ^ m)) = ((x / 2 ^ m : Nat) : Int) := by
  rw [Int.fdiv_eq_ediv_of_nonneg _ (by exact Int.pow_nonneg (by omega))]
  simp

instance : Atom (At B) where
  cells := At.cells
  size := At.size
  len := by intro a; cases a <;> first | rfl | exact Big.len _ | (simp [At.cells, At.size])
  one := by intro a v hv; cases a <;> first | exact Big.one _ v hv | (simp [At.cells] at hv; subst hv; rfl) | (simp only [At.cells, List.mem_map] at hv; obtain ⟨_, _, rfl⟩ := hv; rfl)
  int := At.int
  int_ok := by intro a k z h; cases a <;> simp [At.int] at h <;> (obtain ⟨rfl, rfl⟩ := h; rfl)
  wrap := At.wrap
  wrap_ok := by
    intro k z a h
    cases k <;> simp [At.wrap] at h <;> subst h <;> simp [At.cells, IntKind.wrap, IntKind.bits, IntKind.signed] <;> omega
  shr := At.shr
  shr_ok := by
    intro a b m k z h h'
    cases a <;> simp [At.shr, At.int] at h h' <;> (obtain ⟨rfl, rfl⟩ := h'; subst h; rw [fdiv_nat]; simp only [At.cells]; congr 2)
    · rename_i x
      rw [UInt64.toNat_ofNat_of_lt']
      exact Nat.lt_of_le_of_lt (Nat.div_le_self _ _) x.toNat_lt
    · rename_i x
      rw [UInt32.toNat_ofNat_of_lt']
      exact Nat.lt_of_le_of_lt (Nat.div_le_self _ _) x.toNat_lt
    · rename_i x
      rw [UInt8.toNat_ofNat_of_lt']
      exact Nat.lt_of_le_of_lt (Nat.div_le_self _ _) x.toNat_lt
  parts := At.parts
  parts_ok := by
    intro a l h
    cases a
    case big x =>
      simp only [At.parts] at h
      split at h
      · rename_i r hr
        obtain rfl := Option.some.inj h
        refine ⟨?_, fun x hx => ?_⟩
        · simp only [At.cells, Big.words_ok hr, List.map_map]
          exact (flat_single _ _ (fun x => rfl) _).symm
        · simp only [List.mem_map] at hx
          obtain ⟨_, _, rfl⟩ := hx
          rfl
      · cases h
    all_goals simp only [At.parts, Option.some.injEq] at h <;> first | (cases h; done) | (subst h; refine ⟨?_, ?_⟩) <;> first
      | (simp only [At.cells, List.map_map]; exact (flat_single _ _ (fun x => rfl) _).symm)
      | (intro x hx; simp only [List.mem_map] at hx; obtain ⟨_, _, rfl⟩ := hx; rfl)
  pack := At.pack
  pack_ok := by
    intro l b h
    unfold At.pack at h
    split at h
    · split at h
      · rename_i r hr
        simp at h; subst h
        rw [list8_cells hr, ← pickN_range 0]; rfl
      · cases h
    · split at h
      · rename_i r hr
        simp at h; subst h
        rw [list32_cells hr, ← pickN_range 0]; rfl
      · cases h
    · split at h
      · rename_i r hr
        simp at h; subst h
        rw [list64_cells hr, ← pickN_range 0]; rfl
      · cases h
  get := At.get
  get_ok := by
    intro a i b h hi
    cases a
    case big x =>
      simp only [At.get] at h
      split at h
      · rename_i r hr
        obtain rfl := Option.some.inj h
        have e := Big.words_ok hr
        have hl : i < r.length := by
          have h1 : i < Big.size x := hi
          rw [← Big.len, e] at h1
          simpa using h1
        refine ⟨.int .u64 (pickN 0 r i).toNat, ?_, rfl⟩
        simp only [At.cells, e, List.getElem?_map, pickN_at 0 r i hl]
        rfl
      · cases h
    all_goals simp [At.get] at h <;> subst h <;> (have hi' := List.getElem?_range (n := _) hi; exact ⟨_, by simp only [At.cells, List.getElem?_map]; exact congrArg (Option.map _) hi', rfl⟩)
  like := At.like
  like_ok := by
    intro a r b h
    unfold At.like at h
    split at h
    · split at h
      · rename_i b' hb
        obtain rfl := Option.some.inj h
        simp only [At.cells, Big.like_ok hb, List.map_map]
        rfl
      · cases h
    · split at h
      · rename_i l hl
        obtain rfl := Option.some.inj h
        simp only [At.cells, Big.words_ok hl]
        exact pickN_range 0 (fun x : UInt64 => Value.int .u64 x.toNat) l
      · cases h
    · cases h
  set := At.set
  set_ok := by
    intro a i b c h hi0
    clear hi0
    cases a
    case big z =>
      have e : ∀ {l : List UInt64}, Big.words z = some l → At.cells (.big z) = (List.range l.length).map fun i => Value.int .u64 (pickN 0 l i).toNat := by
        intro l hl
        simp only [At.cells, Big.words_ok hl]
        exact (pickN_range 0 (fun x : UInt64 => Value.int .u64 x.toNat) l).symm
      cases b
      case u64 y =>
        simp only [At.set] at h
        split at h
        · rename_i l hl
          obtain rfl := Option.some.inj h
          refine ⟨_, rfl, ?_⟩
          rw [e hl]
          simp only [At.cells]
          rw [row_set (fun x : UInt64 => Value.int .u64 x.toNat)]
        · cases h
      case cy y =>
        simp only [At.set] at h
        split at h
        · rename_i l hl
          obtain rfl := Option.some.inj h
          refine ⟨_, rfl, ?_⟩
          rw [e hl]
          simp only [At.cells]
          rw [row_set (fun x : UInt64 => Value.int .u64 x.toNat)]
          cases y <;> rfl
        · cases h
      all_goals simp [At.set] at h
    all_goals cases b <;> simp [At.set] at h <;> subst h <;> refine ⟨_, rfl, ?_⟩ <;> first
      | (simp only [At.cells]; rw [row_set (fun x : UInt64 => Value.int .u64 x.toNat)]; done)
      | (simp only [At.cells]; rw [row_set (fun x : UInt32 => Value.int .u32 x.toNat)]; done)
      | (simp only [At.cells]; rw [row_set (fun x : UInt8 => Value.int .u8 x.toNat)]; done)
      | (rename_i x; simp only [At.cells]; rw [row_set (fun x : UInt64 => Value.int .u64 x.toNat)]; cases x <;> rfl)

end

/-- A type of data, as cells. -/
class Rep (A : Type) [Atom A] (T : Type) where
  agg : Bool
  shw : T → List (SV A)
  vals : T → List Value
  parse : List (SV A) → Option T
  is : ∀ (β : Adr) (x : T), LIs β (shw x) (vals x)
  only : ∀ {β : Adr} {x : T} {vs}, LIs β (shw x) vs → vs = vals x
  ok : ∀ {β : Adr} {l : List (SV A)} {x : T} {vs}, parse l = some x → LIs β l vs → vs = vals x
  single : agg = false → ∀ x : T, ∃ v, vals x = [v]

section
variable {A : Type} [Atom A]

/-- The value itself. -/
def Rep.val {T : Type} [Rep A T] (x : T) : Value :=
  match Rep.agg A T with
  | true => .agg (Rep.vals A x).toArray
  | false => (Rep.vals A x).headD undef

def Rep.tv {T : Type} [Rep A T] (x : T) : TV A := .val (Rep.agg A T) (Rep.shw x)

theorem Rep.tv_is {T : Type} [r : Rep A T] (β : Adr) (x : T) : (Rep.tv (A := A) x).Is β (Rep.val (A := A) x) := by
  unfold Rep.tv Rep.val
  show VIs β _ _ _
  cases h : Rep.agg A T with
  | true => exact ⟨_, Rep.is β x, rfl⟩
  | false =>
    obtain ⟨v, hv⟩ := Rep.single h x
    have := Rep.is (A := A) β x
    rw [hv] at this
    simp only [hv, List.headD_cons]
    exact this

theorem Rep.tv_only {T : Type} [r : Rep A T] {β : Adr} {x : T} {v : Value} (hv : (Rep.tv (A := A) x).Is β v) : v = Rep.val (A := A) x := by
  unfold Rep.tv at hv
  unfold Rep.val
  have hv' : VIs β (Rep.agg A T) (Rep.shw x) v := hv
  cases h : Rep.agg A T with
  | true =>
    rw [h] at hv'
    obtain ⟨vs, h1, rfl⟩ := hv'
    rw [Rep.only h1]
  | false =>
    rw [h] at hv'
    have := Rep.only (x := x) hv'
    simp only [← this, List.headD_cons]

/-- A type of arguments: with what is not told of them (G): where they lie. -/
class Arg (A : Type) [Atom A] (T : Type) where
  G : Type
  good : World → G → T → Prop
  tv : G → T → TV A
  val : G → T → Value
  is : ∀ {W : World} {g : G} {x : T} (β : Adr), good W g x → (tv g x).Is β (val g x)
  parse : (Addr → Option Value) → Mem A → TV A → Option (T × List Prop)
  ok : ∀ {c : Cfg A} {X : Nat → Prop} {W0 W : World} {β : Adr} {m : Mem A} {t : TV A} {x : T} {vc : List Prop} {v : Value}, parse c.old m t = some (x, vc) → (∀ p ∈ vc, p) → MRel c X W0 β m W → t.Is β v → ∃ g, good W g x ∧ v = val g x

def argParse {T : Type} [Rep A T] : TV A → Option (T × List Prop)
  | .val g l =>
    if g = Rep.agg A T then
      match Rep.parse l with
      | some x => some (x, [])
      | none => none
    else none
  | _ => none

instance (priority := low) {T : Type} [Rep A T] : Arg A T where
  G := Unit
  good _ _ _ := True
  tv _ x := Rep.tv x
  val _ x := Rep.val (A := A) x
  is β _ := Rep.tv_is β _
  parse _ _ t := argParse t
  ok := by
    intro c X W0 W β m t x vc v h _ _ e
    refine ⟨(), trivial, ?_⟩
    unfold argParse at h
    split at h
    · rename_i g cs
      split at h
      · rename_i hg
        split at h
        · rename_i a ha
          simp at h
          obtain ⟨rfl, _⟩ := h
          have h1' : VIs β g cs v := e
          subst hg
          unfold Rep.val
          cases hag : Rep.agg A T with
          | true =>
            rw [hag] at h1'
            obtain ⟨us, k1, rfl⟩ := h1'
            rw [Rep.ok ha k1]
          | false =>
            rw [hag] at h1'
            have := Rep.ok ha h1'
            simp only [← this, List.headD_cons]
        · cases h
      · cases h
    · cases h

/-- A list of arguments. -/
class Args (A : Type) [Atom A] (Γ : Type) where
  G : Type
  good : World → G → Γ → Prop
  tvs : G → Γ → List (TV A)
  vals : G → Γ → List Value
  is : ∀ {W : World} {g : G} {x : Γ} (β : Adr), good W g x → TsIs β (tvs g x) (vals g x)
  parse : (Addr → Option Value) → Mem A → List (TV A) → Option (Γ × List Prop)
  ok : ∀ {c : Cfg A} {X : Nat → Prop} {W0 W : World} {β : Adr} {m : Mem A} {l : List (TV A)} {x : Γ} {vc : List Prop} {vs : List Value}, parse c.old m l = some (x, vc) → (∀ p ∈ vc, p) → MRel c X W0 β m W → TsIs β l vs → ∃ g, good W g x ∧ vs = vals g x

instance : Args A Unit where
  G := Unit
  good _ _ _ := True
  tvs _ _ := []
  vals _ _ := []
  parse | _, _, [] => some ((), []) | _, _, _ => none
  is _ _ := rfl
  ok := by
    intro c X W0 W β m l x vc vs h _ _ e
    cases l with
    | nil => exact ⟨(), trivial, e⟩
    | cons _ _ => cases h

def argsParse {T Γ : Type} [Arg A T] [Args A Γ] (old : Addr → Option Value) (m : Mem A) : List (TV A) → Option ((T × Γ) × List Prop)
  | t :: r =>
    match Arg.parse old m t, Args.parse old m r with
    | some (x, v1), some (y, v2) => some ((x, y), v1 ++ v2)
    | _, _ => none
  | _ => none

instance {T Γ : Type} [Arg A T] [Args A Γ] : Args A (T × Γ) where
  G := Arg.G A T × Args.G A Γ
  good W g x := Arg.good W g.1 x.1 ∧ Args.good W g.2 x.2
  tvs g x := Arg.tv g.1 x.1 :: Args.tvs g.2 x.2
  vals g x := Arg.val g.1 x.1 :: Args.vals g.2 x.2
  parse := argsParse
  is β h := ⟨_, _, Arg.is β h.1, Args.is β h.2, rfl⟩
  ok := by
    intro c X W0 W β m l x vc vs h hvc hm e
    unfold argsParse at h
    split at h
    · rename_i t r
      split at h
      · rename_i a v1 b v2 ha hb
        simp at h
        obtain ⟨rfl, rfl⟩ := h
        obtain ⟨v, r', h1, h2, rfl⟩ := e
        obtain ⟨g1, k1, rfl⟩ := Arg.ok ha (fun p hp => hvc p (by simp [hp])) hm h1
        obtain ⟨g2, k2, rfl⟩ := Args.ok hb (fun p hp => hvc p (by simp [hp])) hm h2
        exact ⟨(g1, g2), ⟨k1, k2⟩, rfl⟩
      · cases h
    · cases h

/-- A result. -/
class Res (A : Type) [Atom A] (R : Type) where
  tv : R → TV A
  val : R → Value
  is : ∀ (β : Adr) (x : R), (tv x).Is β (val x)
  only : ∀ {β : Adr} {x : R} {v}, (tv x).Is β v → v = val x
  parse : TV A → Option R
  ok : ∀ {β : Adr} {t : TV A} {x : R} {v}, parse t = some x → t.Is β v → v = val x

def Rep.parseV {T : Type} [Rep A T] (g : Bool) (l : List (SV A)) : Option T := if g = Rep.agg A T then Rep.parse l else none

theorem Rep.parseV_ok {T : Type} [Rep A T] {β : Adr} {g : Bool} {l : List (SV A)} {x : T} {v : Value} (h : Rep.parseV g l = some x) (e : VIs β g l v) : v = Rep.val (A := A) x := by
  unfold Rep.parseV at h
  split at h
  · rename_i hg
    subst hg
    unfold Rep.val
    cases hag : Rep.agg A T with
    | true =>
      rw [hag] at e
      obtain ⟨us, k1, rfl⟩ := e
      rw [Rep.ok h k1]
    | false =>
      rw [hag] at e
      have := Rep.ok h e
      simp only [← this, List.headD_cons]
  · cases h

instance (priority := low) {T : Type} [Rep A T] : Res A T where
  tv := Rep.tv
  val := Rep.val (A := A)
  is := Rep.tv_is
  only := Rep.tv_only
  parse
    | .val g l => Rep.parseV g l
    | _ => none
  ok := by
    intro β t x v h e
    split at h
    · exact Rep.parseV_ok h e
    · cases h

/-- Two results, three. -/
structure T2 (U V : Type) where
  a : U
  b : V
structure T3 (U V W : Type) where
  a : U
  b : V
  c : W

instance {U V : Type} [Rep A U] [Rep A V] : Res A (T2 U V) where
  tv x := .tup [(Rep.agg A U, Rep.shw x.a), (Rep.agg A V, Rep.shw x.b)]
  val x := .tuple #[Rep.val (A := A) x.a, Rep.val (A := A) x.b]
  is β x := ⟨[_, _], ⟨_, _, Rep.tv_is β x.a, ⟨_, [], Rep.tv_is β x.b, rfl, rfl⟩, rfl⟩, rfl⟩
  only := by
    rintro β x v ⟨vs, ⟨v1, r1, h1, ⟨v2, r2, h2, e, rfl⟩, rfl⟩, rfl⟩
    obtain rfl : r2 = [] := e
    rw [Rep.tv_only (A := A) (x := x.a) h1, Rep.tv_only (A := A) (x := x.b) h2]
  parse
    | .tup [(g, l), (g', l')] =>
      match Rep.parseV g l, Rep.parseV g' l' with
      | some a, some b => some ⟨a, b⟩
      | _, _ => none
    | _ => none
  ok := by
    intro β t x v h e
    split at h
    · split at h
      · rename_i a b ha hb
        simp at h; subst h
        obtain ⟨vs, ⟨v1, r1, h1, ⟨v2, r2, h2, e, rfl⟩, rfl⟩, rfl⟩ := e
        obtain rfl : r2 = [] := e
        rw [Rep.parseV_ok ha h1, Rep.parseV_ok hb h2]
      · cases h
    · cases h

instance {U V W : Type} [Rep A U] [Rep A V] [Rep A W] : Res A (T3 U V W) where
  tv x := .tup [(Rep.agg A U, Rep.shw x.a), (Rep.agg A V, Rep.shw x.b), (Rep.agg A W, Rep.shw x.c)]
  val x := .tuple #[Rep.val (A := A) x.a, Rep.val (A := A) x.b, Rep.val (A := A) x.c]
  is β x := ⟨[_, _, _], ⟨_, _, Rep.tv_is β x.a, ⟨_, _, Rep.tv_is β x.b, ⟨_, [], Rep.tv_is β x.c, rfl, rfl⟩, rfl⟩, rfl⟩, rfl⟩
  only := by
    rintro β x v ⟨vs, ⟨v1, r1, h1, ⟨v2, r2, h2, ⟨v3, r3, h3, e, rfl⟩, rfl⟩, rfl⟩, rfl⟩
    obtain rfl : r3 = [] := e
    rw [Rep.tv_only (A := A) (x := x.a) h1, Rep.tv_only (A := A) (x := x.b) h2, Rep.tv_only (A := A) (x := x.c) h3]
  parse
    | .tup [(g, l), (g', l'), (g'', l'')] =>
      match Rep.parseV g l, Rep.parseV g' l', Rep.parseV g'' l'' with
      | some a, some b, some c => some ⟨a, b, c⟩
      | _, _, _ => none
    | _ => none
  ok := by
    intro β t x v h e
    split at h
    · split at h
      · rename_i a b c ha hb hc
        simp at h; subst h
        obtain ⟨vs, ⟨v1, r1, h1, ⟨v2, r2, h2, ⟨v3, r3, h3, e, rfl⟩, rfl⟩, rfl⟩, rfl⟩ := e
        obtain rfl : r3 = [] := e
        rw [Rep.parseV_ok ha h1, Rep.parseV_ok hb h2, Rep.parseV_ok hc h3]
      · cases h
    · cases h

/-- What is said of a value that a call leaves: in the world W behind it (n: how many objects there were ahead of it). -/
class Ret (A : Type) [Atom A] (R : Type) where
  tv : R → TV A
  good : World → Nat → R → Value → Prop
  is : ∀ {W : World} {n : Nat} {x : R} {v : Value}, good W n x v → ∃ K : Addr → Value → Prop, (∀ a u, K a u → W.cell? a = some u ∧ n ≤ a.block) ∧ ∀ β : Adr, (tv x).Is (β.know K) v
  parse : Mem A → TV A → Option (R × List Prop)
  ok : ∀ {c : Cfg A} {W0 W : World} {β : Adr} {m : Mem A} {t : TV A} {x : R} {vc : List Prop} {v : Value}, parse m t = some (x, vc) → (∀ p ∈ vc, p) → MRel c (fun _ => False) W0 β m W → t.Is β v → good W W0.heap.size x v

instance (priority := low) {R : Type} [Res A R] : Ret A R where
  tv := Res.tv
  good _ _ x v := v = Res.val A x
  is h := ⟨fun _ _ => False, fun _ _ h => h.elim, fun β => by rw [h]; exact Res.is _ _⟩
  parse _ t := match Res.parse t with | some x => some (x, []) | none => none
  ok := by
    intro c W0 W β m t x vc v h _ _ e
    split at h
    · rename_i y hy
      simp at h
      obtain ⟨rfl, _⟩ := h
      exact Res.ok hy e
    · cases h

/-- A run's result, and what must hold. -/
def retOf {R : Type} [Ret A R] (r : TV A × Mem A × List Prop) : Option R × List Prop :=
  match Ret.parse r.2.1 r.1 with
  | some (x, v) => (some x, v ++ r.2.2)
  | none => (none, r.2.2)

theorem retOf_some {R : Type} [Ret A R] {r : TV A × Mem A × List Prop} {y : R} {vc : List Prop} (h : retOf r = (some y, vc)) : ∃ v, Ret.parse r.2.1 r.1 = some (y, v) ∧ vc = v ++ r.2.2 := by
  unfold retOf at h
  split at h
  · rename_i x v hx
    simp at h
    obtain ⟨rfl, rfl⟩ := h
    exact ⟨v, hx, rfl⟩
  · cases h

/-- Function g computes f, touching nothing. -/
def Computes (A : Type) [Atom A] {Γ R : Type} [Args A Γ] [Ret A R] (P : Program) (g : FuncId) (f : Γ → R) : Prop :=
  ∀ (gh : Args.G A Γ) (x : Γ) (W : World), Args.good W gh x → CallSem P g (Args.vals gh x) W (fun v W' => Ret.good A W' W.heap.size (f x) v ∧ Keeps W W')

/-- A row of a table of calls. -/
structure Row (A : Type) where
  g : FuncId
  e : (Addr → Option Value) → List (TV A) → Mem A → Option (TV A × Option (Mem A) × List Prop)

def rowOf (A : Type) [Atom A] {Γ R : Type} [Args A Γ] [Ret A R] (g : FuncId) (f : Γ → R) : Row A where
  g := g
  e := fun old args m =>
    match Args.parse old m args with
    | some (x, vc) => some (Ret.tv (f x), none, vc)
    | none => none

def RowOK (P : Program) (r : Row A) : Prop :=
  ∀ (c : Cfg A) (args : List (TV A)) (m : Mem A) (res : TV A) (mm : Option (Mem A)) (vc : List Prop), c.P = P → r.e c.old args m = some (res, mm, vc) → (∀ p ∈ vc, p) →
    ∀ (X : Nat → Prop) (W0 W : World) (β : Adr) (vs : List Value), c.gl = (fun _ => none) → MRel c X W0 β m W → TsIs β args vs →
      match mm with
      | none => CallSem P r.g vs W (fun v W' => ∃ K, Fresh W W' K ∧ res.Is (β.know K) v ∧ Keeps W W')
      | some m' => Top β m → CallSem P r.g vs W (fun v W' => ∃ β', Adr.le β β' ∧ res.Is β' v ∧ MRel c X W0 β' m' W' ∧ Top β' m' ∧ NC W W')

theorem CallSem.mono {P : Program} {g : FuncId} {vs : List Value} {W : World} {p q : Value → World → Prop} (h : CallSem P g vs W p) (hpq : ∀ v W', p v W' → q v W') : CallSem P g vs W q := by
  rcases h with ⟨v, h1, h2⟩ | ⟨h1, h2⟩
  · exact .inl ⟨v, h1, hpq _ _ h2⟩
  · refine .inr ⟨h1, h2.mono ?_⟩
    rintro e W' ⟨v, rfl, hv⟩
    exact ⟨v, rfl, hpq _ _ hv⟩

theorem Computes.row {P : Program} {Γ R : Type} [Args A Γ] [Ret A R] {g : FuncId} {f : Γ → R} (h : Computes A P g f) : RowOK P (rowOf A g f) := by
  intro c args m res mm vc _ he hvc X W0 W β vs _ hm hvs
  simp only [rowOf] at he
  split at he
  · rename_i x vc' hx
    simp at he
    obtain ⟨rfl, rfl, rfl⟩ := he
    obtain ⟨gh, hg, rfl⟩ := Args.ok hx hvc hm hvs
    refine (h gh x W hg).mono (fun v W' hv => ?_)
    obtain ⟨K, k1, k2⟩ := Ret.is hv.1
    exact ⟨K, k1, k2 β, hv.2⟩
  · cases he

def findRow (g : FuncId) : List (Row A) → Option (Row A)
  | [] => none
  | r :: l => if Nat.beq r.g g then some r else findRow g l

/-- A row of a table of functions that are ranged over. -/
structure IRow (A : Type) where
  g : FuncId
  e : (Addr → Option Value) → List (Ys A) → YF A → List (TV A) → Nat → Mem A → Pds → Option (Mem A × Pds × List Prop)

def IRowOK (P : Program) (r : IRow A) : Prop :=
  ∀ (old : Addr → Option Value) (ys : List (Ys A)) (yf : YF A) (args : List (TV A)) (rd : Nat) (m : Mem A) (pd : Pds) (m' : Mem A) (pd' : Pds) (vc : List Prop), r.e old ys yf args rd m pd = some (m', pd', vc) → (∀ p ∈ vc, p) →
    ∀ c1 : Cfg A, c1.P = P → c1.gl = (fun _ => none) → c1.old = old → c1.ys = ys → c1.yf = yf → YOK c1 → ∀ (X : Nat → Prop) (W0 W : World) (β : Adr) (vs : List Value), MRel c1 X W0 β m W → Top β m → YAll X W0 β ys pd W → TsIs β args vs →
      (∀ args W, (callFunc r.g args).run P W = .ok (.enter r.g args) W) ∧
      Calls P r.g vs.toArray W (fun e W' => (∃ v, e = .returned v) ∧ ∃ β', Adr.le β β' ∧ MRel c1 X W0 β' m' W' ∧ Top β' m' ∧ YAll X W0 β' ys pd' W')

def findIRow (g : FuncId) : List (IRow A) → Option (IRow A)
  | [] => none
  | r :: l => if Nat.beq r.g g then some r else findIRow g l

def noYield : YF A := fun _ _ _ _ _ => none
def noLoop : Nat → Option (St A × Ex × St A) := fun _ => none

/-- The settings of a run: a program, a table of calls, a table of functions that are ranged over, an oracle; what lies in memory that is not ours; the loops that are told; the loops over functions that are under way. -/
def cfgW (P : Program) (tbl : List (Row A)) (its : List (IRow A)) (orc : Nat → Nat → Dec) (old : Addr → Option Value) (lp : Nat → Option (St A × Ex × St A)) (ys : List (Ys A)) (yf : YF A) : Cfg A where
  P := P
  gl := fun _ => none
  orc := orc
  call := fun g args m =>
    match findRow g tbl with
    | some r => r.e old args m
    | none => none
  old := old
  lp := lp
  ys := ys
  yf := yf
  it := fun g ys yf args rd m pd =>
    match findIRow g its with
    | some r => r.e old ys yf args rd m pd
    | none => none

/-- No loop over a function. -/
abbrev cfg (P : Program) (tbl : List (Row A)) (orc : Nat → Nat → Dec) (old : Addr → Option Value := fun _ => none) (lp : Nat → Option (St A × Ex × St A) := noLoop) : Cfg A :=
  cfgW P tbl [] orc old lp [] noYield

/-- Oracles: the tests in the slots of a list are so; all others are kept. -/
def says (l : List (Nat × Bool)) : Nat → Nat → Dec := fun _ t =>
  match l with
  | [] => .keep
  | (d, b) :: r => if Nat.beq d t then .take b else says r 0 t
def reckons : Nat → Nat → Dec := fun _ _ => .eval
/-- The test in slot k holds, all others fail. -/
def only (k : Nat) : Nat → Nat → Dec := fun _ t => .take (Nat.beq t k)

def TblOK (P : Program) (tbl : List (Row A)) : Prop := ∀ r ∈ tbl, RowOK P r

theorem TblOK.nil (P : Program) : TblOK (A := A) P [] := fun _ h => by cases h
theorem TblOK.cons {P : Program} {r : Row A} {tbl : List (Row A)} (h : RowOK P r) (ht : TblOK P tbl) : TblOK P (r :: tbl) := fun x hx => by
  rcases List.mem_cons.1 hx with rfl | hx
  · exact h
  · exact ht x hx
theorem TblOK.append {P : Program} {l r : List (Row A)} (h : TblOK P l) (ht : TblOK P r) : TblOK P (l ++ r) := fun x hx => by
  rcases List.mem_append.1 hx with hx | hx
  · exact h x hx
  · exact ht x hx

omit [Atom A] in
theorem findRow_mem {g : FuncId} : ∀ {l : List (Row A)} {r : Row A}, findRow g l = some r → r ∈ l ∧ r.g = g
  | [], _, h => by simp [findRow] at h
  | x :: l, r, h => by
    unfold findRow at h
    split at h
    · rename_i hb
      simp at h; subst h
      exact ⟨by simp, Nat.eq_of_beq_eq_true hb⟩
    · obtain ⟨h1, h2⟩ := findRow_mem h
      exact ⟨by simp [h1], h2⟩

theorem callsOK {P : Program} {tbl : List (Row A)} (h : TblOK P tbl) (its : List (IRow A)) (orc : Nat → Nat → Dec) (old : Addr → Option Value) (lp : Nat → Option (St A × Ex × St A)) (ys : List (Ys A)) (yf : YF A) : CallsOK (cfgW P tbl its orc old lp ys yf) := by
  intro g args m res mm vc hc hvc X W0 W β vs hm ha
  simp only [cfgW] at hc
  split at hc
  · rename_i r hr
    obtain ⟨h1, rfl⟩ := findRow_mem hr
    exact h r h1 (cfgW P tbl its orc old lp ys yf) args m res mm vc rfl hc hvc X W0 W β vs rfl hm ha
  · cases hc

def ITblOK (P : Program) (its : List (IRow A)) : Prop := ∀ r ∈ its, IRowOK P r
theorem ITblOK.nil (P : Program) : ITblOK (A := A) P [] := fun _ h => by cases h
theorem ITblOK.cons {P : Program} {r : IRow A} {its : List (IRow A)} (h : IRowOK P r) (ht : ITblOK P its) : ITblOK P (r :: its) := fun x hx => by
  rcases List.mem_cons.1 hx with rfl | hx
  · exact h
  · exact ht x hx

omit [Atom A] in
theorem findIRow_mem {g : FuncId} : ∀ {l : List (IRow A)} {r : IRow A}, findIRow g l = some r → r ∈ l ∧ r.g = g
  | [], _, h => by simp [findIRow] at h
  | x :: l, r, h => by
    unfold findIRow at h
    split at h
    · rename_i hb
      simp at h; subst h
      exact ⟨by simp, Nat.eq_of_beq_eq_true hb⟩
    · obtain ⟨h1, h2⟩ := findIRow_mem h
      exact ⟨by simp [h1], h2⟩

/-- Calls of yield are right, whatever else a run's settings are. -/
def YFOK (P : Program) (old : Addr → Option Value) (ys : List (Ys A)) (yf : YF A) : Prop :=
  ∀ c : Cfg A, c.P = P → c.gl = (fun _ => none) → c.old = old → c.ys = ys → c.yf = yf → YOK c

theorem YFOK.none (P : Program) (old : Addr → Option Value) : YFOK (A := A) P old [] noYield := by
  intro c _ _ _ _ hyf i args rd m pd b m' pd' vc h
  rw [hyf] at h
  cases h

theorem cfgOK {P : Program} {tbl : List (Row A)} (h : TblOK P tbl) {its : List (IRow A)} (hi : ITblOK P its) (orc : Nat → Nat → Dec) {old : Addr → Option Value} (lp : Nat → Option (St A × Ex × St A)) {ys : List (Ys A)} {yf : YF A} (hy : YFOK P old ys yf) : CfgOK (cfgW P tbl its orc old lp ys yf) := by
  refine ⟨callsOK h its orc old lp ys yf, hy _ rfl rfl rfl rfl rfl, ?_⟩
  intro g ys' yf' args rd m pd m' pd' vc hit hvc c1 e1 e2 e3 e4 e5 hyok X W0 W β vs hm ht hya ha
  simp only [cfgW] at hit
  split at hit
  · rename_i r hr
    obtain ⟨h1, rfl⟩ := findIRow_mem hr
    exact hi r h1 old ys' yf' args rd m pd m' pd' vc hit hvc c1 e1 e2 e3 e4 e5 hyok X W0 W β vs hm ht hya ha
  · cases hit

theorem cfgOK0 {P : Program} {tbl : List (Row A)} (h : TblOK P tbl) {its : List (IRow A)} (hi : ITblOK P its) (orc : Nat → Nat → Dec) (old : Addr → Option Value) (lp : Nat → Option (St A × Ex × St A)) : CfgOK (cfgW P tbl its orc old lp [] noYield) :=
  cfgOK h hi orc lp (YFOK.none P old)

/-- One loop over a function more. -/
theorem YFOK.push {P : Program} {tbl : List (Row A)} {its : List (IRow A)} {orc : Nat → Nat → Dec} {old : Addr → Option Value} {lp : Nat → Option (St A × Ex × St A)} {ys : List (Ys A)} {yf : YF A} (hc : CfgOK (cfgW P tbl its orc old lp ys yf)) (fuel : Nat) (s : Ys A)
    (hx : LoopsOK (cfgW P tbl its orc old lp ys yf) s.assign) (hb : LoopsOK (cfgW P tbl its orc old lp ys yf) s.body) :
    YFOK P old (s :: ys) (pushY (exec (cfgW P tbl its orc old lp ys yf) fuel s.assign) (exec (cfgW P tbl its orc old lp ys yf) fuel s.body) s yf) := by
  intro c1 e1 e2 e3 e4 e5
  exact pushY_ok (c := cfgW P tbl its orc old lp ys yf) hc.ys (exec_sound hc _ hx) (exec_sound hc _ hb) (exec_vc _) c1 e1 e2 e3 e4 e5

/-- A function without a body that runs here and now. -/
theorem computes_extern {P : Program} {g : FuncId} {fn : Func} {Γ R : Type} [Args A Γ] [Res A R] {f : Γ → R} {en : Array Value → Sem Value} (hf : P.funcs[g]? = some fn)
    (hn : (fn.name == "runtime.NumGoroutine") = false) (hb : fn.body.isNone = true) (hnx : Extern.findNext fn = none) (he : Extern.find fn = some en)
    (h : ∀ (gh : Args.G A Γ) (x : Γ) (W : World), Args.good W gh x → (en (Args.vals gh x).toArray).run P W = .ok (Res.val A (f x)) W) : Computes A P g f := by
  intro gh x W hg
  refine .inl ⟨_, ?_, rfl, Keeps.refl W⟩
  rw [run_callFunc_extern hf hn hb hnx he, h gh x W hg]
  rfl

theorem callFunc_enter {P : Program} {g : FuncId} {fn : Func} (hf : P.funcs[g]? = some fn) (hn : (fn.name == "runtime.NumGoroutine") = false) (hb : fn.body.isNone = false) (args : Array Value) (W : World) :
    (callFunc g args).run P W = .ok (.enter g args) W := by
  have h1 : fn.name ≠ "runtime.NumGoroutine" := by simpa using hn
  have h2 : ¬ fn.body = none := by intro h; simp [h] at hb
  simp [callFunc, hf, h1, h2]

/-- All of a list hold. -/
def All (vc : List Prop) : Prop := vc.foldr And True

theorem All.mem : ∀ {vc : List Prop}, All vc → ∀ p ∈ vc, p
  | [], _, _, h => by cases h
  | q :: l, h, p, hp => by
    have h' : q ∧ All l := h
    rcases List.mem_cons.1 hp with rfl | hp
    · exact h'.1
    · exact All.mem h'.2 p hp

theorem All.nil : All [] := trivial
theorem All.cons {p : Prop} {l : List Prop} (h : p) (hl : All l) : All (p :: l) := ⟨h, hl⟩

theorem loopsOK_none (P : Program) (tbl : List (Row A)) (its : List (IRow A)) (orc : Nat → Nat → Dec) (old : Addr → Option Value) (ys : List (Ys A)) (yf : YF A) (x : Code) : LoopsOK (cfgW P tbl its orc old noLoop ys yf) x :=
  fun _ _ _ _ _ _ _ h => by cases h

/-- Told loops are right, whatever else a run's settings are. -/
def LoopsFor (P : Program) (old : Addr → Option Value) (ys : List (Ys A)) (lp : Nat → Option (St A × Ex × St A)) (x : Code) : Prop :=
  ∀ c : Cfg A, c.P = P → c.gl = (fun _ => none) → c.old = old → c.ys = ys → c.lp = lp → LoopsOK c x

theorem loopsFor_none {P : Program} {old : Addr → Option Value} {ys : List (Ys A)} {x : Code} : LoopsFor P old ys noLoop x :=
  fun c _ _ _ _ hlp _ _ i pre e post _ h => by rw [hlp] at h; cases h

/-- Ahead of all: no memory of ours. -/
theorem mrel_nil (c : Cfg A) (W : World) (hgl : c.gl = fun _ => none) (hold : c.old = W.cell?) : MRel c (fun _ => False) W Adr.nil [] W :=
  ⟨fun i blk hi => (by simp [nth] at hi), fun i j bi bj b li => (by simp [nth] at li), fun i b hi => (by cases hi), Ext.refl _ _, fun g i hi => (by rw [hgl] at hi; cases hi), fun a v e => (by rw [hold] at e; exact ⟨e, cell?_lt e, fun h => h⟩), fun k hk => hk.elim,
    fun a v hk => hk.elim, fun i blk v n l hi => (by simp [nth] at hi), fun i b hv => (by obtain ⟨blk, v, n, l, cap, h, _⟩ := hv; simp [nth] at h)⟩

/-- A run on shadows, whatever the arguments, gives a contract; loops may be told, functions ranged over. -/
theorem computes_of_runW {P : Program} {tbl : List (Row A)} (ht : TblOK P tbl) {its : List (IRow A)} (hi : ITblOK P its) {Γ R : Type} [Args A Γ] [Ret A R] {g : FuncId} {fn : Func} {f : Γ → R} (hf : P.funcs[g]? = some fn)
    (hn : (fn.name == "runtime.NumGoroutine") = false) (hb : fn.body.isNone = false) (fuel : Nat)
    (h : ∀ (gh : Args.G A Γ) (x : Γ) (W : World), Args.good W gh x → ∃ orc lp y vc, (run (cfgW P tbl its orc W.cell? lp [] noYield) fuel fn (Args.tvs gh x) []).map retOf = some (some y, vc) ∧ All vc ∧ y = f x ∧
      ∀ body, fn.body = some body → LoopsFor P W.cell? [] lp body) : Computes A P g f := by
  intro gh x W hg
  obtain ⟨orc, lp, y, vc, h1, h2, h3, h4⟩ := h gh x W hg
  refine .inr ⟨callFunc_enter hf hn hb _ W, ?_⟩
  cases hr : run (cfgW P tbl its orc W.cell? lp [] noYield) fuel fn (Args.tvs gh x) [] with
  | none => rw [hr] at h1; cases h1
  | some z =>
    obtain ⟨res, m', vc'⟩ := z
    rw [hr] at h1
    obtain ⟨v1, h5, rfl⟩ := retOf_some (Option.some.inj h1)
    have h2' := h2.mem
    have := run_sound (cfgOK0 ht hi orc W.cell? lp) rfl (c := cfgW P tbl its orc W.cell? lp [] noYield) hf (fun body hbd => h4 body hbd _ rfl rfl rfl rfl rfl) hr (fun p hp => h2' p (List.mem_append_right _ hp)) (X := fun _ => False) (W0 := W) (W := W) (β := Adr.nil) (mrel_nil _ W rfl rfl) (fun _ _ => ⟨rfl, fun _ => rfl⟩) (Args.is _ hg)
    refine this.mono ?_
    rintro e W' ⟨v, rfl, β', _, hv, hm', _⟩
    exact ⟨v, rfl, by rw [← h3]; exact Ret.ok h5 (fun p hp => h2' p (List.mem_append_left _ hp)) hm' hv, hm'.ext⟩

/-- The same where no loop is told, and no memory but ours is looked at. -/
theorem computes_of_run {P : Program} {tbl : List (Row A)} (ht : TblOK P tbl) {Γ R : Type} [Args A Γ] [Ret A R] {g : FuncId} {fn : Func} {f : Γ → R} (hf : P.funcs[g]? = some fn)
    (hn : (fn.name == "runtime.NumGoroutine") = false) (hb : fn.body.isNone = false) (fuel : Nat)
    (h : ∀ (gh : Args.G A Γ) (x : Γ) (W : World), Args.good W gh x → ∃ orc y vc, (run (cfg P tbl orc W.cell?) fuel fn (Args.tvs gh x) []).map retOf = some (some y, vc) ∧ All vc ∧ y = f x) : Computes A P g f :=
  computes_of_runW ht (ITblOK.nil P) hf hn hb fuel (fun gh x W hg => by
    obtain ⟨orc, y, vc, h1, h2, h3⟩ := h gh x W hg
    exact ⟨orc, noLoop, y, vc, h1, h2, h3, fun body _ => loopsFor_none⟩)

/-- The same where nothing is asked of the oracle. -/
theorem computes_of_run0 {P : Program} {tbl : List (Row A)} (ht : TblOK P tbl) {Γ R : Type} [Args A Γ] [Ret A R] {g : FuncId} {fn : Func} {f : Γ → R} (hf : P.funcs[g]? = some fn)
    (hn : (fn.name == "runtime.NumGoroutine") = false) (hb : fn.body.isNone = false) (fuel : Nat)
    (h : ∀ (gh : Args.G A Γ) (x : Γ) (W : World), (run (cfg P tbl (fun _ _ => .keep) W.cell?) fuel fn (Args.tvs gh x) []).map retOf = some (some (f x), [])) : Computes A P g f :=
  computes_of_run ht hf hn hb fuel (fun gh x W _ => ⟨_, f x, [], h gh x W, trivial, rfl⟩)

/-- The same function under another reading of its data. -/
theorem Computes.as {P : Program} {Γ R Γ' R' : Type} [Args A Γ] [Res A R] [Args A Γ'] [Res A R'] {g : FuncId} {f : Γ → R} {f' : Γ' → R'} (h : Computes A P g f) (φ : Γ' → Γ)
    (hφ : ∀ (gh : Args.G A Γ') (x : Γ') (W : World), Args.good W gh x → ∃ gh' : Args.G A Γ, Args.good W gh' (φ x) ∧ Args.vals gh' (φ x) = Args.vals gh x) (hf : ∀ x, Res.val A (f (φ x)) = Res.val A (f' x)) : Computes A P g f' := by
  intro gh x W hg
  obtain ⟨gh', h1, h2⟩ := hφ gh x W hg
  have := h gh' (φ x) W h1
  rw [h2] at this
  exact this.mono (fun v W' hv => ⟨by have h3 : v = Res.val A (f (φ x)) := hv.1; rw [hf x] at h3; exact h3, hv.2⟩)

/-- A function whose calls are run where they stand; its told loops are right. -/
def rowInW (P : Program) (tbl : List (Row A)) (its : List (IRow A)) (orc : Nat → Nat → Dec) (lp : Nat → Option (St A × Ex × St A)) (fuel : Nat) (g : FuncId) (fn : Func) : Row A where
  g := g
  e := fun old args m =>
    match run (cfgW P tbl its orc old lp [] noYield) fuel fn args m with
    | some (res, m', vc) => some (res, some m', (∀ body, fn.body = some body → LoopsFor P old [] lp body) :: vc)
    | none => none

/-- The same where no loop is told. -/
def rowIn (P : Program) (tbl : List (Row A)) (its : List (IRow A)) (orc : Nat → Nat → Dec) (fuel : Nat) (g : FuncId) (fn : Func) : Row A where
  g := g
  e := fun old args m =>
    match run (cfgW P tbl its orc old noLoop [] noYield) fuel fn args m with
    | some (res, m', vc) => some (res, some m', vc)
    | none => none

theorem rowInW_ok {P : Program} {tbl : List (Row A)} (ht : TblOK P tbl) {its : List (IRow A)} (hi : ITblOK P its) (orc : Nat → Nat → Dec) (lp : Nat → Option (St A × Ex × St A)) (fuel : Nat) {g : FuncId} {fn : Func} (hf : P.funcs[g]? = some fn) (hn : (fn.name == "runtime.NumGoroutine") = false) (hb : fn.body.isNone = false) :
    RowOK P (rowInW P tbl its orc lp fuel g fn) := by
  intro c args m res mm vc hP he hvc X W0 W β vs hgl hm hvs
  simp only [rowInW] at he
  split at he
  · rename_i res' m' vc' hr
    simp at he
    obtain ⟨rfl, rfl, rfl⟩ := he
    intro htop
    refine .inr ⟨callFunc_enter hf hn hb _ W, ?_⟩
    have hl := hvc (∀ body, fn.body = some body → LoopsFor P c.old [] lp body) (by simp)
    refine (run_sound (cfgOK0 ht hi orc c.old lp) rfl (c := cfgW P tbl its orc c.old lp [] noYield) hf (fun body hbd => hl body hbd _ rfl rfl rfl rfl rfl) hr (fun p hp => hvc p (by simp [hp])) (MRel.like (c := c) (c' := cfgW P tbl its orc c.old lp [] noYield) hP.symm hgl.symm rfl hm) htop hvs).mono ?_
    rintro e W' ⟨v, rfl, β', h1, h2, h3, h4, h5⟩
    exact ⟨v, rfl, β', h1, h2, MRel.like (c := cfgW P tbl its orc c.old lp [] noYield) (c' := c) hP hgl rfl h3, h4, h5⟩
  · cases he

theorem rowIn_ok {P : Program} {tbl : List (Row A)} (ht : TblOK P tbl) {its : List (IRow A)} (hi : ITblOK P its) (orc : Nat → Nat → Dec) (fuel : Nat) {g : FuncId} {fn : Func} (hf : P.funcs[g]? = some fn) (hn : (fn.name == "runtime.NumGoroutine") = false) (hb : fn.body.isNone = false) :
    RowOK P (rowIn P tbl its orc fuel g fn) := by
  intro c args m res mm vc hP he hvc X W0 W β vs hgl hm hvs
  refine rowInW_ok ht hi orc noLoop fuel hf hn hb c args m res mm ((∀ body, fn.body = some body → LoopsFor (A := A) P c.old [] noLoop body) :: vc) hP ?_ ?_ X W0 W β vs hgl hm hvs
  · simp only [rowIn] at he
    simp only [rowInW]
    split at he
    · simp at he
      obtain ⟨rfl, rfl, rfl⟩ := he
      rfl
    · cases he
  · intro p hp
    rcases List.mem_cons.1 hp with rfl | hp
    · exact fun body _ => loopsFor_none
    · exact hvc p hp

/-- A function that is ranged over, run where it stands; its told loops are right. -/
def iterW (P : Program) (tbl : List (Row A)) (its : List (IRow A)) (orc : Nat → Nat → Dec) (lp : Nat → Option (St A × Ex × St A)) (fuel : Nat) (g : FuncId) (fn : Func) : IRow A where
  g := g
  e := fun old ys yf args _ m pd =>
    match runP (cfgW P tbl its orc old lp ys yf) fuel fn args m pd with
    | some (_, m', pd', vc) => some (m', pd', (∀ body, fn.body = some body → LoopsFor P old ys lp body) :: vc)
    | none => none

/-- The same where no loop is told. -/
def iter (P : Program) (tbl : List (Row A)) (its : List (IRow A)) (orc : Nat → Nat → Dec) (fuel : Nat) (g : FuncId) (fn : Func) : IRow A where
  g := g
  e := fun old ys yf args _ m pd =>
    match runP (cfgW P tbl its orc old noLoop ys yf) fuel fn args m pd with
    | some (_, m', pd', vc) => some (m', pd', vc)
    | none => none

theorem iterW_ok {P : Program} {tbl : List (Row A)} (ht : TblOK P tbl) {its : List (IRow A)} (hi : ITblOK P its) (orc : Nat → Nat → Dec) (lp : Nat → Option (St A × Ex × St A)) (fuel : Nat) {g : FuncId} {fn : Func} (hf : P.funcs[g]? = some fn) (hn : (fn.name == "runtime.NumGoroutine") = false) (hb : fn.body.isNone = false) :
    IRowOK P (iterW P tbl its orc lp fuel g fn) := by
  intro old ys yf args rd m pd m' pd' vc he hvc c1 e1 e2 e3 e4 e5 hyok X W0 W β vs hm htop hy hvs
  refine ⟨fun args W => callFunc_enter hf hn hb args W, ?_⟩
  simp only [iterW] at he
  split at he
  · rename_i v m2 pd2 vc2 hr
    simp at he
    obtain ⟨rfl, rfl, rfl⟩ := he
    have hl := hvc (∀ body, fn.body = some body → LoopsFor P old ys lp body) (by simp)
    have hyf : YOK (cfgW P tbl its orc old lp ys yf) := by
      intro i args rd m pd b m' pd' vc h hvc X W0 W β vs hm htop hy hvs l hl
      have h' : c1.yf i args rd m pd = some (b, m', pd', vc) := by rw [e5]; exact h
      have := hyok i args rd m pd b m' pd' vc h' hvc X W0 W β vs (hm.like (by rw [e1]; rfl) (by rw [e2]; rfl) (by rw [e3]; rfl)) htop (by rw [e4]; exact hy) hvs l hl
      obtain ⟨rec, k1, k2, k3⟩ := this
      refine ⟨rec, k1, k2, fun r n => ?_⟩
      have k4 := k3 r n
      rw [e1] at k4
      refine k4.mono ?_
      rintro e W' ⟨j1, β', j2, j3, j4, j5, j6⟩
      rw [e4] at j5
      refine ⟨j1, β', j2, j3.like (by rw [e1]; rfl) (by rw [e2]; rfl) (by rw [e3]; rfl), j4, j5, fun k o hk ho hs => j6 k o hk ho (by rw [e4]; exact hs)⟩
    have hcfg : CfgOK (cfgW P tbl its orc old lp ys yf) := ⟨callsOK ht its orc old lp ys yf, hyf, (cfgOK0 ht hi orc old lp).its⟩
    refine (runP_sound hcfg (c := cfgW P tbl its orc old lp ys yf) hf (fun body hbd => hl body hbd _ rfl rfl rfl rfl rfl) hr (fun p hp => hvc p (by simp [hp])) (hm.like (by rw [e1]; rfl) (by rw [e2]; rfl) (by rw [e3]; rfl)) htop hy hvs).mono ?_
    rintro e W' ⟨v, rfl, β', h1, _, h3, h4, h5, _⟩
    exact ⟨⟨v, rfl⟩, β', h1, h3.like (by rw [e1]; rfl) (by rw [e2]; rfl) (by rw [e3]; rfl), h4, h5⟩
  · cases he

theorem iter_ok {P : Program} {tbl : List (Row A)} (ht : TblOK P tbl) {its : List (IRow A)} (hi : ITblOK P its) (orc : Nat → Nat → Dec) (fuel : Nat) {g : FuncId} {fn : Func} (hf : P.funcs[g]? = some fn) (hn : (fn.name == "runtime.NumGoroutine") = false) (hb : fn.body.isNone = false) :
    IRowOK P (iter P tbl its orc fuel g fn) := by
  intro old ys yf args rd m pd m' pd' vc he hvc
  refine iterW_ok ht hi orc noLoop fuel hf hn hb old ys yf args rd m pd m' pd' ((∀ body, fn.body = some body → LoopsFor (A := A) P old ys noLoop body) :: vc) ?_ ?_
  · simp only [iter] at he
    simp only [iterW]
    split at he
    · simp at he
      obtain ⟨rfl, rfl, rfl⟩ := he
      rfl
    · cases he
  · intro p hp
    rcases List.mem_cons.1 hp with rfl | hp
    · exact fun body _ => loopsFor_none
    · exact hvc p hp

end

/-! ### Data -/

section
variable {B : Type} [Big B]

instance : Rep (At B) UInt64 where
  agg := false
  shw x := [.a (.u64 x)]
  vals x := [.int .u64 x.toNat]
  parse
    | [.a (.u64 x)] => some x
    | [.a (.cy x)] => some (cond x 1 0)
    | [.v (.int .u64 (.ofNat n))] => if n < 18446744073709551616 then some (UInt64.ofNat n) else none
    | _ => none
  is β x := LIs.of_single rfl
  only := by
    rintro β x vs ⟨u, y, h1, h2, rfl⟩
    obtain rfl : y = [] := h2
    have h3 : u = [.int .u64 x.toNat] := h1
    simp [h3]
  ok := by
    intro β l x vs h e
    split at h
    · obtain ⟨u, y, h1, h2, rfl⟩ := e
      obtain rfl : y = [] := h2
      simp at h; subst h
      have h3 : u = _ := h1
      simp [h3]
      rfl
    · obtain ⟨u, y, h1, h2, rfl⟩ := e
      obtain rfl : y = [] := h2
      rename_i b
      simp at h; subst h
      have h3 : u = [.int .u64 (cond b 1 0)] := h1
      rw [h3]
      cases b <;> rfl
    · obtain ⟨u, y, h1, h2, rfl⟩ := e
      obtain rfl : y = [] := h2
      split at h
      · rename_i n hn
        simp at h; subst h
        obtain ⟨rfl, _⟩ := h1
        simp [UInt64.toNat_ofNat_of_lt' hn]
      · cases h
    · cases h
  single _ x := ⟨_, rfl⟩

instance : Rep (At B) UInt8 where
  agg := false
  shw x := [.a (.u8 x)]
  vals x := [.int .u8 x.toNat]
  parse
    | [.a (.u8 x)] => some x
    | [.v (.int .u8 (.ofNat n))] => if n < 256 then some (UInt8.ofNat n) else none
    | _ => none
  is β x := LIs.of_single rfl
  only := by
    rintro β x vs ⟨u, y, h1, h2, rfl⟩
    obtain rfl : y = [] := h2
    have h3 : u = [.int .u8 x.toNat] := h1
    simp [h3]
  ok := by
    intro β l x vs h e
    split at h
    · obtain ⟨u, y, h1, h2, rfl⟩ := e
      obtain rfl : y = [] := h2
      simp at h; subst h
      have h3 : u = _ := h1
      simp [h3]
      rfl
    · obtain ⟨u, y, h1, h2, rfl⟩ := e
      obtain rfl : y = [] := h2
      split at h
      · rename_i n hn
        simp at h; subst h
        obtain ⟨rfl, _⟩ := h1
        simp [UInt8.toNat_ofNat_of_lt' hn]
      · cases h
    · cases h
  single _ x := ⟨_, rfl⟩

instance : Rep (At B) UInt32 where
  agg := false
  shw x := [.a (.u32 x)]
  vals x := [.int .u32 x.toNat]
  parse
    | [.a (.u32 x)] => some x
    | [.v (.int .u32 (.ofNat n))] => if n < 4294967296 then some (UInt32.ofNat n) else none
    | _ => none
  is β x := LIs.of_single rfl
  only := by
    rintro β x vs ⟨u, y, h1, h2, rfl⟩
    obtain rfl : y = [] := h2
    have h3 : u = [.int .u32 x.toNat] := h1
    simp [h3]
  ok := by
    intro β l x vs h e
    split at h
    · obtain ⟨u, y, h1, h2, rfl⟩ := e
      obtain rfl : y = [] := h2
      simp at h; subst h
      have h3 : u = _ := h1
      simp [h3]
      rfl
    · obtain ⟨u, y, h1, h2, rfl⟩ := e
      obtain rfl : y = [] := h2
      split at h
      · rename_i n hn
        simp at h; subst h
        obtain ⟨rfl, _⟩ := h1
        simp [UInt32.toNat_ofNat_of_lt' hn]
      · cases h
    · cases h
  single _ x := ⟨_, rfl⟩

/-- A carry: 0 or 1. -/
structure Cy where
  on : Bool

instance : Rep (At B) Cy where
  agg := false
  shw x := [.a (.cy x.on)]
  vals x := [.int .u64 (cond x.on 1 0)]
  parse
    | [.a (.cy x)] => some ⟨x⟩
    | [.v (.int .u64 (.ofNat n))] => if n = 0 then some ⟨false⟩ else if n = 1 then some ⟨true⟩ else none
    | _ => none
  is β x := LIs.of_single rfl
  only := by
    rintro β x vs ⟨u, y, h1, h2, rfl⟩
    obtain rfl : y = [] := h2
    have h3 : u = [.int .u64 (cond x.on 1 0)] := h1
    simp [h3]
  ok := by
    intro β l x vs h e
    split at h
    · obtain ⟨u, y, h1, h2, rfl⟩ := e
      obtain rfl : y = [] := h2
      simp at h; subst h
      have h3 : u = _ := h1
      simp [h3]
      rfl
    · obtain ⟨u, y, h1, h2, rfl⟩ := e
      obtain rfl : y = [] := h2
      split at h
      · rename_i n hn
        simp at h; subst h; subst hn
        obtain ⟨rfl, _⟩ := h1
        rfl
      · split at h
        · rename_i n _ hn
          simp at h; subst h; subst hn
          obtain ⟨rfl, _⟩ := h1
          rfl
        · cases h
    · cases h
  single _ x := ⟨_, rfl⟩

instance : Rep (At B) Bool where
  agg := false
  shw x := [.b x]
  vals x := [.bool x]
  parse
    | [.b x] => some x
    | [.v (.bool x)] => some x
    | _ => none
  is β x := LIs.of_single rfl
  only := by
    rintro β x vs ⟨u, y, h1, h2, rfl⟩
    obtain rfl : y = [] := h2
    have h3 : u = [.bool x] := h1
    simp [h3]
  ok := by
    intro β l x vs h e
    split at h
    · obtain ⟨u, y, h1, h2, rfl⟩ := e
      obtain rfl : y = [] := h2
      simp at h; subst h
      have h3 : u = _ := h1
      simp [h3]
    · obtain ⟨u, y, h1, h2, rfl⟩ := e
      obtain rfl : y = [] := h2
      simp at h; subst h
      obtain ⟨rfl, _⟩ := h1
      simp
    · cases h
  single _ x := ⟨_, rfl⟩

instance : Rep (At B) Int where
  agg := false
  shw x := [.n .i64 x]
  vals x := [.int .i64 x]
  parse
    | [.n .i64 x] => some x
    | [.v (.int .i64 x)] => some x
    | _ => none
  is β x := LIs.of_single rfl
  only := by
    rintro β x vs ⟨u, y, h1, h2, rfl⟩
    obtain rfl : y = [] := h2
    have h3 : u = [.int .i64 x] := h1
    simp [h3]
  ok := by
    intro β l x vs h e
    split at h
    · obtain ⟨u, y, h1, h2, rfl⟩ := e
      obtain rfl : y = [] := h2
      simp at h; subst h
      have h3 : u = _ := h1
      simp [h3]
    · obtain ⟨u, y, h1, h2, rfl⟩ := e
      obtain rfl : y = [] := h2
      simp at h; subst h
      obtain ⟨rfl, _⟩ := h1
      simp
    · cases h
  single _ x := ⟨_, rfl⟩
end

section
variable {A : Type} [Atom A]

/-- Two behind one another: a struct's parts, an array's. The first one's number of cells is told. -/
class Sized (A : Type) [Atom A] (T : Type) [Rep A T] where
  size : Nat
  len : ∀ x : T, (Rep.vals A x).length = size

def pairParse {S T : Type} [Rep A S] [Rep A T] [Sized A S] (l : List (SV A)) : Option (S × T) :=
  match splitC l (Sized.size A S) with
  | some (x, y) =>
    match Rep.parse x, Rep.parse y with
    | some a, some b => some (a, b)
    | _, _ => none
  | none => none

theorem LIs.split {β : Adr} : ∀ {l r : List (SV A)} {vs}, LIs β (l ++ r) vs → ∃ x y, LIs β l x ∧ LIs β r y ∧ vs = x ++ y
  | [], r, vs, h => ⟨[], vs, rfl, h, rfl⟩
  | s :: l, r, vs, ⟨x, y, h1, h2, e⟩ => by
    obtain ⟨u, w, h3, h4, rfl⟩ := LIs.split h2
    exact ⟨x ++ u, w, ⟨x, u, h1, h3, rfl⟩, h4, by rw [e, List.append_assoc]⟩

instance {S T : Type} [Rep A S] [Rep A T] [Sized A S] : Rep A (S × T) where
  agg := true
  shw x := Rep.shw x.1 ++ Rep.shw x.2
  vals x := Rep.vals A x.1 ++ Rep.vals A x.2
  parse := pairParse
  is β x := (Rep.is β x.1).append (Rep.is β x.2)
  only := by
    intro β x vs h
    obtain ⟨u, w, h1, h2, rfl⟩ := LIs.split h
    rw [Rep.only h1, Rep.only h2]
  ok := by
    intro β l x vs h e
    unfold pairParse at h
    split at h
    · rename_i u w hs
      split at h
      · rename_i a b ha hb
        simp at h; subst h
        obtain ⟨h1, h2, _⟩ := splitC_is e hs
        have e1 := Rep.ok ha h1
        have e2 := Rep.ok hb h2
        simp only
        rw [← e1, ← e2, List.take_append_drop]
      · cases h
    · cases h
  single h := by cases h

instance {S T : Type} [Rep A S] [Rep A T] [Sized A S] [Sized A T] : Sized A (S × T) where
  size := Sized.size A S + Sized.size A T
  len x := by
    show (Rep.vals A x.1 ++ Rep.vals A x.2).length = _
    rw [List.length_append, Sized.len, Sized.len]
end

section
variable {B : Type} [Big B]
instance : Sized (At B) UInt64 := ⟨1, fun _ => rfl⟩
instance : Sized (At B) UInt32 := ⟨1, fun _ => rfl⟩
instance : Sized (At B) UInt8 := ⟨1, fun _ => rfl⟩
instance : Sized (At B) Bool := ⟨1, fun _ => rfl⟩
instance : Sized (At B) Int := ⟨1, fun _ => rfl⟩
end
end Go.Sh
