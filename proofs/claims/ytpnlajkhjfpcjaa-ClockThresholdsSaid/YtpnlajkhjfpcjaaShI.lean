/- Contracts of functions that only compute: what they are, how a run on shadows gives one, how they serve in the next run. -/
import Derived.Test.YtpnlajkhjfpcjaaShH
import Derived.Laws.Externs
namespace Go.Sh
open Go.RowKit

/-- What stands for many cells. -/
class Big (B : Type) where
  cells : B → List Value
  size : B → Nat
  len : ∀ b, (cells b).length = size b
  one : ∀ b, ∀ v ∈ cells b, v.oneCell' = true

/-- Numbers of a kind, carries, and whatever else. -/
inductive At (B : Type) where
  | u64 (x : UInt64)
  | u32 (x : UInt32)
  | u8 (x : UInt8)
  | cy (x : Bool)
  | big (x : B)

section
variable {B : Type} [Big B]

def At.cells : At B → List Value
  | .u64 x => [.int .u64 x.toNat]
  | .u32 x => [.int .u32 x.toNat]
  | .u8 x => [.int .u8 x.toNat]
  | .cy x => [.int .u64 (cond x 1 0)]
  | .big x => Big.cells x

def At.size : At B → Nat
  | .big x => Big.size x
  | _ => 1

def At.int : At B → Option (IntKind × Int)
  | .u64 x => some (.u64, x.toNat)
  | .u32 x => some (.u32, x.toNat)
  | .u8 x => some (.u8, x.toNat)
  | .cy x => some (.u64, cond x 1 0)
  | .big _ => none

def At.wrap : IntKind → Int → Option (At B)
  | .u64, z => some (.u64 (UInt64.ofNat (z % 18446744073709551616).toNat))
  | .u32, z => some (.u32 (UInt32.ofNat (z % 4294967296).toNat))
  | .u8, z => some (.u8 (UInt8.ofNat (z % 256).toNat))
  | _, _ => none

def At.shr : At B → Nat → Option (At B)
  | .u64 x, m => some (.u64 (UInt64.ofNat (x.toNat / 2 ^ m)))
  | .u32 x, m => some (.u32 (UInt32.ofNat (x.toNat / 2 ^ m)))
  | .u8 x, m => some (.u8 (UInt8.ofNat (x.toNat / 2 ^ m)))
  | _, _ => none

theorem fdiv_nat (x m : Nat) : ((x : Int).fdiv (2 ^ m)) = ((x / 2 ^ m : Nat) : Int) := by
  rw [Int.fdiv_eq_ediv_of_nonneg _ (by exact Int.pow_nonneg (by omega))]
  simp

instance : Atom (At B) where
  cells := At.cells
  size := At.size
  len := by intro a; cases a <;> first | rfl | exact Big.len _
  one := by intro a v hv; cases a <;> first | exact Big.one _ v hv | (simp [At.cells] at hv; subst hv; rfl)
  int := At.int
  int_ok := by intro a k z h; cases a <;> simp [At.int] at h <;> (obtain ⟨rfl, rfl⟩ := h; rfl)
  wrap := At.wrap
  wrap_ok := by
    intro k z a h
    cases k <;> simp [At.wrap] at h <;> subst h <;> simp [At.cells, IntKind.wrap, IntKind.bits, IntKind.signed] <;> omega
  shr := At.shr
  shr_ok := by
    intro a b m k z h h'
    cases a <;> simp [At.shr, At.int] at h h' <;> (obtain ⟨rfl, rfl⟩ := h'; subst h; rw [fdiv_nat]; simp only [At.cells]; congr 2)
    · rename_i x
      rw [UInt64.toNat_ofNat_of_lt']
      exact Nat.lt_of_le_of_lt (Nat.div_le_self _ _) x.toNat_lt
    · rename_i x
      rw [UInt32.toNat_ofNat_of_lt']
      exact Nat.lt_of_le_of_lt (Nat.div_le_self _ _) x.toNat_lt
    · rename_i x
      rw [UInt8.toNat_ofNat_of_lt']
      exact Nat.lt_of_le_of_lt (Nat.div_le_self _ _) x.toNat_lt

end

/-- A type of data, as cells. -/
class Rep (A : Type) [Atom A] (T : Type) where
  agg : Bool
  shw : T → List (SV A)
  vals : T → List Value
  parse : List (SV A) → Option T
  is : ∀ (β : Adr) (x : T), LIs β (shw x) (vals x)
  only : ∀ {β : Adr} {x : T} {vs}, LIs β (shw x) vs → vs = vals x
  ok : ∀ {β : Adr} {l : List (SV A)} {x : T} {vs}, parse l = some x → LIs β l vs → vs = vals x
  single : agg = false → ∀ x : T, ∃ v, vals x = [v]

section
variable {A : Type} [Atom A]

/-- The value itself. -/
def Rep.val {T : Type} [Rep A T] (x : T) : Value :=
  match Rep.agg A T with
  | true => .agg (Rep.vals A x).toArray
  | false => (Rep.vals A x).headD undef

def Rep.tv {T : Type} [Rep A T] (x : T) : TV A := .val (Rep.agg A T) (Rep.shw x)

theorem Rep.tv_is {T : Type} [r : Rep A T] (β : Adr) (x : T) : (Rep.tv (A := A) x).Is β (Rep.val (A := A) x) := by
  unfold Rep.tv Rep.val
  show VIs β _ _ _
  cases h : Rep.agg A T with
  | true => exact ⟨_, Rep.is β x, rfl⟩
  | false =>
    obtain ⟨v, hv⟩ := Rep.single h x
    have := Rep.is (A := A) β x
    rw [hv] at this
    simp only [hv, List.headD_cons]
    exact this

theorem Rep.tv_only {T : Type} [r : Rep A T] {β : Adr} {x : T} {v : Value} (hv : (Rep.tv (A := A) x).Is β v) : v = Rep.val (A := A) x := by
  unfold Rep.tv at hv
  unfold Rep.val
  have hv' : VIs β (Rep.agg A T) (Rep.shw x) v := hv
  cases h : Rep.agg A T with
  | true =>
    rw [h] at hv'
    obtain ⟨vs, h1, rfl⟩ := hv'
    rw [Rep.only h1]
  | false =>
    rw [h] at hv'
    have := Rep.only (x := x) hv'
    simp only [← this, List.headD_cons]

/-- A list of arguments. -/
class Args (A : Type) [Atom A] (Γ : Type) where
  tvs : Γ → List (TV A)
  vals : Γ → List Value
  parse : List (TV A) → Option Γ
  is : ∀ (β : Adr) (x : Γ), TsIs β (tvs x) (vals x)
  ok : ∀ {β : Adr} {l : List (TV A)} {x : Γ} {vs}, parse l = some x → TsIs β l vs → vs = vals x

instance : Args A Unit where
  tvs _ := []
  vals _ := []
  parse | [] => some () | _ => none
  is _ _ := rfl
  ok := by intro β l x vs h e; cases l with | nil => exact e | cons _ _ => cases h

def argsParse {T Γ : Type} [Rep A T] [Args A Γ] : List (TV A) → Option (T × Γ)
  | .val g l :: r =>
    if g = Rep.agg A T then
      match Rep.parse l, Args.parse r with
      | some x, some y => some (x, y)
      | _, _ => none
    else none
  | _ => none

instance {T Γ : Type} [Rep A T] [Args A Γ] : Args A (T × Γ) where
  tvs x := Rep.tv x.1 :: Args.tvs x.2
  vals x := Rep.val (A := A) x.1 :: Args.vals A x.2
  parse := argsParse
  is β x := ⟨_, _, Rep.tv_is β x.1, Args.is β x.2, rfl⟩
  ok := by
    intro β l x vs h e
    unfold argsParse at h
    split at h
    · rename_i g cs r
      split at h
      · rename_i hg
        split at h
        · rename_i a b ha hb
          simp at h; subst h
          obtain ⟨v, r', h1, h2, rfl⟩ := e
          have e2 := Args.ok hb h2
          subst e2
          congr 1
          have h1' : VIs β g cs v := h1
          subst hg
          unfold Rep.val
          cases hag : Rep.agg A T with
          | true =>
            rw [hag] at h1'
            obtain ⟨us, k1, rfl⟩ := h1'
            rw [Rep.ok ha k1]
          | false =>
            rw [hag] at h1'
            have := Rep.ok ha h1'
            simp only [← this, List.headD_cons]
        · cases h
      · cases h
    · cases h

/-- A result. -/
class Res (A : Type) [Atom A] (R : Type) where
  tv : R → TV A
  val : R → Value
  is : ∀ (β : Adr) (x : R), (tv x).Is β (val x)
  only : ∀ {β : Adr} {x : R} {v}, (tv x).Is β v → v = val x
  parse : TV A → Option R
  ok : ∀ {β : Adr} {t : TV A} {x : R} {v}, parse t = some x → t.Is β v → v = val x

def Rep.parseV {T : Type} [Rep A T] (g : Bool) (l : List (SV A)) : Option T := if g = Rep.agg A T then Rep.parse l else none

theorem Rep.parseV_ok {T : Type} [Rep A T] {β : Adr} {g : Bool} {l : List (SV A)} {x : T} {v : Value} (h : Rep.parseV g l = some x) (e : VIs β g l v) : v = Rep.val (A := A) x := by
  unfold Rep.parseV at h
  split at h
  · rename_i hg
    subst hg
    unfold Rep.val
    cases hag : Rep.agg A T with
    | true =>
      rw [hag] at e
      obtain ⟨us, k1, rfl⟩ := e
      rw [Rep.ok h k1]
    | false =>
      rw [hag] at e
      have := Rep.ok h e
      simp only [← this, List.headD_cons]
  · cases h

instance (priority := low) {T : Type} [Rep A T] : Res A T where
  tv := Rep.tv
  val := Rep.val (A := A)
  is := Rep.tv_is
  only := Rep.tv_only
  parse
    | .val g l => Rep.parseV g l
    | _ => none
  ok := by
    intro β t x v h e
    split at h
    · exact Rep.parseV_ok h e
    · cases h

/-- Two results, three. -/
structure T2 (U V : Type) where
  a : U
  b : V
structure T3 (U V W : Type) where
  a : U
  b : V
  c : W

instance {U V : Type} [Rep A U] [Rep A V] : Res A (T2 U V) where
  tv x := .tup [(Rep.agg A U, Rep.shw x.a), (Rep.agg A V, Rep.shw x.b)]
  val x := .tuple #[Rep.val (A := A) x.a, Rep.val (A := A) x.b]
  is β x := ⟨[_, _], ⟨_, _, Rep.tv_is β x.a, ⟨_, [], Rep.tv_is β x.b, rfl, rfl⟩, rfl⟩, rfl⟩
  only := by
    rintro β x v ⟨vs, ⟨v1, r1, h1, ⟨v2, r2, h2, e, rfl⟩, rfl⟩, rfl⟩
    obtain rfl : r2 = [] := e
    rw [Rep.tv_only (A := A) (x := x.a) h1, Rep.tv_only (A := A) (x := x.b) h2]
  parse
    | .tup [(g, l), (g', l')] =>
      match Rep.parseV g l, Rep.parseV g' l' with
      | some a, some b => some ⟨a, b⟩
      | _, _ => none
    | _ => none
  ok := by
    intro β t x v h e
    split at h
    · split at h
      · rename_i a b ha hb
        simp at h; subst h
        obtain ⟨vs, ⟨v1, r1, h1, ⟨v2, r2, h2, e, rfl⟩, rfl⟩, rfl⟩ := e
        obtain rfl : r2 = [] := e
        rw [Rep.parseV_ok ha h1, Rep.parseV_ok hb h2]
      · cases h
    · cases h

instance {U V W : Type} [Rep A U] [Rep A V] [Rep A W] : Res A (T3 U V W) where
  tv x := .tup [(Rep.agg A U, Rep.shw x.a), (Rep.agg A V, Rep.shw x.b), (Rep.agg A W, Rep.shw x.c)]
  val x := .tuple #[Rep.val (A := A) x.a, Rep.val (A := A) x.b, Rep.val (A := A) x.c]
  is β x := ⟨[_, _, _], ⟨_, _, Rep.tv_is β x.a, ⟨_, _, Rep.tv_is β x.b, ⟨_, [], Rep.tv_is β x.c, rfl, rfl⟩, rfl⟩, rfl⟩, rfl⟩
  only := by
    rintro β x v ⟨vs, ⟨v1, r1, h1, ⟨v2, r2, h2, ⟨v3, r3, h3, e, rfl⟩, rfl⟩, rfl⟩, rfl⟩
    obtain rfl : r3 = [] := e
    rw [Rep.tv_only (A := A) (x := x.a) h1, Rep.tv_only (A := A) (x := x.b) h2, Rep.tv_only (A := A) (x := x.c) h3]
  parse
    | .tup [(g, l), (g', l'), (g'', l'')] =>
      match Rep.parseV g l, Rep.parseV g' l', Rep.parseV g'' l'' with
      | some a, some b, some c => some ⟨a, b, c⟩
      | _, _, _ => none
    | _ => none
  ok := by
    intro β t x v h e
    split at h
    · split at h
      · rename_i a b c ha hb hc
        simp at h; subst h
        obtain ⟨vs, ⟨v1, r1, h1, ⟨v2, r2, h2, ⟨v3, r3, h3, e, rfl⟩, rfl⟩, rfl⟩, rfl⟩ := e
        obtain rfl : r3 = [] := e
        rw [Rep.parseV_ok ha h1, Rep.parseV_ok hb h2, Rep.parseV_ok hc h3]
      · cases h
    · cases h

/-- Function g computes f, touching nothing. -/
def Computes (A : Type) [Atom A] {Γ R : Type} [Args A Γ] [Res A R] (P : Program) (g : FuncId) (f : Γ → R) : Prop :=
  ∀ (x : Γ) (W : World), CallSem P g (Args.vals A x) W (fun v W' => v = Res.val A (f x) ∧ Keeps W W')

/-- A row of a table of calls. -/
structure Row (A : Type) where
  g : FuncId
  e : List (TV A) → Option (TV A)

def rowOf (A : Type) [Atom A] {Γ R : Type} [Args A Γ] [Res A R] (g : FuncId) (f : Γ → R) : Row A where
  g := g
  e := fun args =>
    match Args.parse args with
    | some x => some (Res.tv (f x))
    | none => none

def RowOK (P : Program) (r : Row A) : Prop :=
  ∀ (args : List (TV A)) (res : TV A), r.e args = some res → ∀ (β : Adr) (vs : List Value) (W : World), TsIs β args vs → CallSem P r.g vs W (fun v W' => res.Is β v ∧ Keeps W W')

theorem CallSem.mono {P : Program} {g : FuncId} {vs : List Value} {W : World} {p q : Value → World → Prop} (h : CallSem P g vs W p) (hpq : ∀ v W', p v W' → q v W') : CallSem P g vs W q := by
  rcases h with ⟨v, h1, h2⟩ | ⟨h1, h2⟩
  · exact .inl ⟨v, h1, hpq _ _ h2⟩
  · refine .inr ⟨h1, h2.mono ?_⟩
    rintro e W' ⟨v, rfl, hv⟩
    exact ⟨v, rfl, hpq _ _ hv⟩

theorem Computes.row {P : Program} {Γ R : Type} [Args A Γ] [Res A R] {g : FuncId} {f : Γ → R} (h : Computes A P g f) : RowOK P (rowOf A g f) := by
  intro args res he β vs W hvs
  simp only [rowOf] at he
  split at he
  · rename_i x hx
    simp at he; subst he
    have := Args.ok hx hvs
    subst this
    exact (h x W).mono (fun v W' hv => ⟨by rw [hv.1]; exact Res.is β (f x), hv.2⟩)
  · cases he

def findRow (g : FuncId) : List (Row A) → Option (Row A)
  | [] => none
  | r :: l => if Nat.beq r.g g then some r else findRow g l

/-- The settings of a run: a program, a table of calls, an oracle. -/
def cfg (P : Program) (tbl : List (Row A)) (orc : Nat → Nat → Dec) : Cfg A where
  P := P
  gl := fun _ => none
  orc := orc
  call := fun g args _ =>
    match findRow g tbl with
    | some r =>
      match r.e args with
      | some res => some (res, none, [])
      | none => none
    | none => none

/-- Oracles: the tests in the slots of a list are so; all others are kept. -/
def says (l : List (Nat × Bool)) : Nat → Nat → Dec := fun _ t =>
  match l with
  | [] => .keep
  | (d, b) :: r => if Nat.beq d t then .take b else says r 0 t
def reckons : Nat → Nat → Dec := fun _ _ => .eval
/-- The test in slot k holds, all others fail. -/
def only (k : Nat) : Nat → Nat → Dec := fun _ t => .take (Nat.beq t k)

def TblOK (P : Program) (tbl : List (Row A)) : Prop := ∀ r ∈ tbl, RowOK P r

theorem TblOK.nil (P : Program) : TblOK (A := A) P [] := fun _ h => by cases h
theorem TblOK.cons {P : Program} {r : Row A} {tbl : List (Row A)} (h : RowOK P r) (ht : TblOK P tbl) : TblOK P (r :: tbl) := fun x hx => by
  rcases List.mem_cons.1 hx with rfl | hx
  · exact h
  · exact ht x hx
theorem TblOK.append {P : Program} {l r : List (Row A)} (h : TblOK P l) (ht : TblOK P r) : TblOK P (l ++ r) := fun x hx => by
  rcases List.mem_append.1 hx with hx | hx
  · exact h x hx
  · exact ht x hx

omit [Atom A] in
theorem findRow_mem {g : FuncId} : ∀ {l : List (Row A)} {r : Row A}, findRow g l = some r → r ∈ l ∧ r.g = g
  | [], _, h => by simp [findRow] at h
  | x :: l, r, h => by
    unfold findRow at h
    split at h
    · rename_i hb
      simp at h; subst h
      exact ⟨by simp, Nat.eq_of_beq_eq_true hb⟩
    · obtain ⟨h1, h2⟩ := findRow_mem h
      exact ⟨by simp [h1], h2⟩

theorem callsOK {P : Program} {tbl : List (Row A)} (h : TblOK P tbl) (orc : Nat → Nat → Dec) : CallsOK (cfg P tbl orc) := by
  intro g args m res mm vc hc _ X W0 W β vs _ ha
  simp only [cfg] at hc
  split at hc
  · rename_i r hr
    split at hc
    · rename_i res' he
      simp at hc
      obtain ⟨rfl, rfl, rfl⟩ := hc
      obtain ⟨h1, rfl⟩ := findRow_mem hr
      exact h r h1 args res' he β vs W ha
    · cases hc
  · cases hc

/-- A function without a body that runs here and now. -/
theorem computes_extern {P : Program} {g : FuncId} {fn : Func} {Γ R : Type} [Args A Γ] [Res A R] {f : Γ → R} {en : Array Value → Sem Value} (hf : P.funcs[g]? = some fn)
    (hn : (fn.name == "runtime.NumGoroutine") = false) (hb : fn.body.isNone = true) (hnx : Extern.findNext fn = none) (he : Extern.find fn = some en)
    (h : ∀ (x : Γ) (W : World), (en (Args.vals A x).toArray).run P W = .ok (Res.val A (f x)) W) : Computes A P g f := by
  intro x W
  refine .inl ⟨_, ?_, rfl, Keeps.refl W⟩
  rw [run_callFunc_extern hf hn hb hnx he, h x W]
  rfl

theorem callFunc_enter {P : Program} {g : FuncId} {fn : Func} (hf : P.funcs[g]? = some fn) (hn : (fn.name == "runtime.NumGoroutine") = false) (hb : fn.body.isNone = false) (args : Array Value) (W : World) :
    (callFunc g args).run P W = .ok (.enter g args) W := by
  have h1 : fn.name ≠ "runtime.NumGoroutine" := by simpa using hn
  have h2 : ¬ fn.body = none := by intro h; simp [h] at hb
  simp [callFunc, hf, h1, h2]

/-- All of a list hold. -/
def All (vc : List Prop) : Prop := vc.foldr And True

theorem All.mem : ∀ {vc : List Prop}, All vc → ∀ p ∈ vc, p
  | [], _, _, h => by cases h
  | q :: l, h, p, hp => by
    have h' : q ∧ All l := h
    rcases List.mem_cons.1 hp with rfl | hp
    · exact h'.1
    · exact All.mem h'.2 p hp

/-- A run on shadows, whatever the arguments, gives a contract. -/
theorem computes_of_run {P : Program} {tbl : List (Row A)} (ht : TblOK P tbl) {Γ R : Type} [Args A Γ] [Res A R] {g : FuncId} {fn : Func} {f : Γ → R} (hf : P.funcs[g]? = some fn)
    (hn : (fn.name == "runtime.NumGoroutine") = false) (hb : fn.body.isNone = false) (fuel : Nat)
    (h : ∀ x : Γ, ∃ orc y vc, (run (cfg P tbl orc) fuel fn (Args.tvs x) []).map (fun r => (Res.parse r.1, r.2.2)) = some (some y, vc) ∧ All vc ∧ y = f x) : Computes A P g f := by
  intro x W
  obtain ⟨orc, y, vc, h1, h2, h3⟩ := h x
  refine .inr ⟨callFunc_enter hf hn hb _ W, ?_⟩
  cases hr : run (cfg P tbl orc) fuel fn (Args.tvs x) [] with
  | none => rw [hr] at h1; cases h1
  | some z =>
    obtain ⟨res, m', vc'⟩ := z
    rw [hr] at h1
    simp at h1
    obtain ⟨h1, rfl⟩ := h1
    have hm : MRel (cfg P tbl orc) (fun _ => False) W (fun _ => none) [] W := ⟨fun i blk hi => (by simp [nth] at hi), fun i j b hi => (by cases hi), fun i b hi => (by cases hi), Ext.refl _ _, fun g i hi => (by cases hi)⟩
    have := run_sound (callsOK ht orc) (c := cfg P tbl orc) hf hr h2.mem (X := fun _ => False) (W0 := W) (W := W) (β := fun _ => none) hm (fun _ _ => rfl) (Args.is _ x)
    refine this.mono ?_
    rintro e W' ⟨v, rfl, β', _, hv, hm', _⟩
    exact ⟨v, rfl, by rw [← h3]; exact Res.ok h1 hv, hm'.ext⟩

/-- The same where nothing is asked of the oracle. -/
theorem computes_of_run0 {P : Program} {tbl : List (Row A)} (ht : TblOK P tbl) {Γ R : Type} [Args A Γ] [Res A R] {g : FuncId} {fn : Func} {f : Γ → R} (hf : P.funcs[g]? = some fn)
    (hn : (fn.name == "runtime.NumGoroutine") = false) (hb : fn.body.isNone = false) (fuel : Nat)
    (h : ∀ x : Γ, (run (cfg P tbl (fun _ _ => .keep)) fuel fn (Args.tvs x) []).map (fun r => (Res.parse r.1, r.2.2)) = some (some (f x), [])) : Computes A P g f :=
  computes_of_run ht hf hn hb fuel (fun x => ⟨_, f x, [], h x, trivial, rfl⟩)

/-- The same function under another reading of its data. -/
theorem Computes.as {P : Program} {Γ R Γ' R' : Type} [Args A Γ] [Res A R] [Args A Γ'] [Res A R'] {g : FuncId} {f : Γ → R} {f' : Γ' → R'} (h : Computes A P g f) (φ : Γ' → Γ)
    (hφ : ∀ x, Args.vals A (φ x) = Args.vals A x) (hf : ∀ x, Res.val A (f (φ x)) = Res.val A (f' x)) : Computes A P g f' := by
  intro x W
  have := h (φ x) W
  rw [hφ x, hf x] at this
  exact this

end

/-! ### Data -/

section
variable {B : Type} [Big B]

instance : Rep (At B) UInt64 where
  agg := false
  shw x := [.a (.u64 x)]
  vals x := [.int .u64 x.toNat]
  parse
    | [.a (.u64 x)] => some x
    | [.a (.cy x)] => some (cond x 1 0)
    | [.v (.int .u64 (.ofNat n))] => if n < 18446744073709551616 then some (UInt64.ofNat n) else none
    | _ => none
  is β x := LIs.of_single rfl
  only := by
    rintro β x vs ⟨u, y, h1, h2, rfl⟩
    obtain rfl : y = [] := h2
    have h3 : u = [.int .u64 x.toNat] := h1
    simp [h3]
  ok := by
    intro β l x vs h e
    split at h
    · obtain ⟨u, y, h1, h2, rfl⟩ := e
      obtain rfl : y = [] := h2
      simp at h; subst h
      have h3 : u = _ := h1
      simp [h3]
      rfl
    · obtain ⟨u, y, h1, h2, rfl⟩ := e
      obtain rfl : y = [] := h2
      rename_i b
      simp at h; subst h
      have h3 : u = [.int .u64 (cond b 1 0)] := h1
      rw [h3]
      cases b <;> rfl
    · obtain ⟨u, y, h1, h2, rfl⟩ := e
      obtain rfl : y = [] := h2
      split at h
      · rename_i n hn
        simp at h; subst h
        obtain ⟨rfl, _⟩ := h1
        simp [UInt64.toNat_ofNat_of_lt' hn]
      · cases h
    · cases h
  single _ x := ⟨_, rfl⟩

instance : Rep (At B) UInt8 where
  agg := false
  shw x := [.a (.u8 x)]
  vals x := [.int .u8 x.toNat]
  parse
    | [.a (.u8 x)] => some x
    | [.v (.int .u8 (.ofNat n))] => if n < 256 then some (UInt8.ofNat n) else none
    | _ => none
  is β x := LIs.of_single rfl
  only := by
    rintro β x vs ⟨u, y, h1, h2, rfl⟩
    obtain rfl : y = [] := h2
    have h3 : u = [.int .u8 x.toNat] := h1
    simp [h3]
  ok := by
    intro β l x vs h e
    split at h
    · obtain ⟨u, y, h1, h2, rfl⟩ := e
      obtain rfl : y = [] := h2
      simp at h; subst h
      have h3 : u = _ := h1
      simp [h3]
      rfl
    · obtain ⟨u, y, h1, h2, rfl⟩ := e
      obtain rfl : y = [] := h2
      split at h
      · rename_i n hn
        simp at h; subst h
        obtain ⟨rfl, _⟩ := h1
        simp [UInt8.toNat_ofNat_of_lt' hn]
      · cases h
    · cases h
  single _ x := ⟨_, rfl⟩

instance : Rep (At B) UInt32 where
  agg := false
  shw x := [.a (.u32 x)]
  vals x := [.int .u32 x.toNat]
  parse
    | [.a (.u32 x)] => some x
    | [.v (.int .u32 (.ofNat n))] => if n < 4294967296 then some (UInt32.ofNat n) else none
    | _ => none
  is β x := LIs.of_single rfl
  only := by
    rintro β x vs ⟨u, y, h1, h2, rfl⟩
    obtain rfl : y = [] := h2
    have h3 : u = [.int .u32 x.toNat] := h1
    simp [h3]
  ok := by
    intro β l x vs h e
    split at h
    · obtain ⟨u, y, h1, h2, rfl⟩ := e
      obtain rfl : y = [] := h2
      simp at h; subst h
      have h3 : u = _ := h1
      simp [h3]
      rfl
    · obtain ⟨u, y, h1, h2, rfl⟩ := e
      obtain rfl : y = [] := h2
      split at h
      · rename_i n hn
        simp at h; subst h
        obtain ⟨rfl, _⟩ := h1
        simp [UInt32.toNat_ofNat_of_lt' hn]
      · cases h
    · cases h
  single _ x := ⟨_, rfl⟩

/-- A carry: 0 or 1. -/
structure Cy where
  on : Bool

instance : Rep (At B) Cy where
  agg := false
  shw x := [.a (.cy x.on)]
  vals x := [.int .u64 (cond x.on 1 0)]
  parse
    | [.a (.cy x)] => some ⟨x⟩
    | [.v (.int .u64 (.ofNat n))] => if n = 0 then some ⟨false⟩ else if n = 1 then some ⟨true⟩ else none
    | _ => none
  is β x := LIs.of_single rfl
  only := by
    rintro β x vs ⟨u, y, h1, h2, rfl⟩
    obtain rfl : y = [] := h2
    have h3 : u = [.int .u64 (cond x.on 1 0)] := h1
    simp [h3]
  ok := by
    intro β l x vs h e
    split at h
    · obtain ⟨u, y, h1, h2, rfl⟩ := e
      obtain rfl : y = [] := h2
      simp at h; subst h
      have h3 : u = _ := h1
      simp [h3]
      rfl
    · obtain ⟨u, y, h1, h2, rfl⟩ := e
      obtain rfl : y = [] := h2
      split at h
      · rename_i n hn
        simp at h; subst h; subst hn
        obtain ⟨rfl, _⟩ := h1
        rfl
      · split at h
        · rename_i n _ hn
          simp at h; subst h; subst hn
          obtain ⟨rfl, _⟩ := h1
          rfl
        · cases h
    · cases h
  single _ x := ⟨_, rfl⟩

instance : Rep (At B) Bool where
  agg := false
  shw x := [.b x]
  vals x := [.bool x]
  parse
    | [.b x] => some x
    | [.v (.bool x)] => some x
    | _ => none
  is β x := LIs.of_single rfl
  only := by
    rintro β x vs ⟨u, y, h1, h2, rfl⟩
    obtain rfl : y = [] := h2
    have h3 : u = [.bool x] := h1
    simp [h3]
  ok := by
    intro β l x vs h e
    split at h
    · obtain ⟨u, y, h1, h2, rfl⟩ := e
      obtain rfl : y = [] := h2
      simp at h; subst h
      have h3 : u = _ := h1
      simp [h3]
    · obtain ⟨u, y, h1, h2, rfl⟩ := e
      obtain rfl : y = [] := h2
      simp at h; subst h
      obtain ⟨rfl, _⟩ := h1
      simp
    · cases h
  single _ x := ⟨_, rfl⟩

instance : Rep (At B) Int where
  agg := false
  shw x := [.n .i64 x]
  vals x := [.int .i64 x]
  parse
    | [.n .i64 x] => some x
    | [.v (.int .i64 x)] => some x
    | _ => none
  is β x := LIs.of_single rfl
  only := by
    rintro β x vs ⟨u, y, h1, h2, rfl⟩
    obtain rfl : y = [] := h2
    have h3 : u = [.int .i64 x] := h1
    simp [h3]
  ok := by
    intro β l x vs h e
    split at h
    · obtain ⟨u, y, h1, h2, rfl⟩ := e
      obtain rfl : y = [] := h2
      simp at h; subst h
      have h3 : u = _ := h1
      simp [h3]
    · obtain ⟨u, y, h1, h2, rfl⟩ := e
      obtain rfl : y = [] := h2
      simp at h; subst h
      obtain ⟨rfl, _⟩ := h1
      simp
    · cases h
  single _ x := ⟨_, rfl⟩
end

section
variable {A : Type} [Atom A]

/-- Two behind one another: a struct's parts, an array's. The first one's number of cells is told. -/
class Sized (A : Type) [Atom A] (T : Type) [Rep A T] where
  size : Nat
  len : ∀ x : T, (Rep.vals A x).length = size

def pairParse {S T : Type} [Rep A S] [Rep A T] [Sized A S] (l : List (SV A)) : Option (S × T) :=
  match splitC l (Sized.size A S) with
  | some (x, y) =>
    match Rep.parse x, Rep.parse y with
    | some a, some b => some (a, b)
    | _, _ => none
  | none => none

theorem LIs.split {β : Adr} : ∀ {l r : List (SV A)} {vs}, LIs β (l ++ r) vs → ∃ x y, LIs β l x ∧ LIs β r y ∧ vs = x ++ y
  | [], r, vs, h => ⟨[], vs, rfl, h, rfl⟩
  | s :: l, r, vs, ⟨x, y, h1, h2, e⟩ => by
    obtain ⟨u, w, h3, h4, rfl⟩ := LIs.split h2
    exact ⟨x ++ u, w, ⟨x, u, h1, h3, rfl⟩, h4, by rw [e, List.append_assoc]⟩

instance {S T : Type} [Rep A S] [Rep A T] [Sized A S] : Rep A (S × T) where
  agg := true
  shw x := Rep.shw x.1 ++ Rep.shw x.2
  vals x := Rep.vals A x.1 ++ Rep.vals A x.2
  parse := pairParse
  is β x := (Rep.is β x.1).append (Rep.is β x.2)
  only := by
    intro β x vs h
    obtain ⟨u, w, h1, h2, rfl⟩ := LIs.split h
    rw [Rep.only h1, Rep.only h2]
  ok := by
    intro β l x vs h e
    unfold pairParse at h
    split at h
    · rename_i u w hs
      split at h
      · rename_i a b ha hb
        simp at h; subst h
        obtain ⟨h1, h2, _⟩ := splitC_is e hs
        have e1 := Rep.ok ha h1
        have e2 := Rep.ok hb h2
        simp only
        rw [← e1, ← e2, List.take_append_drop]
      · cases h
    · cases h
  single h := by cases h

instance {S T : Type} [Rep A S] [Rep A T] [Sized A S] [Sized A T] : Sized A (S × T) where
  size := Sized.size A S + Sized.size A T
  len x := by
    show (Rep.vals A x.1 ++ Rep.vals A x.2).length = _
    rw [List.length_append, Sized.len, Sized.len]
end

section
variable {B : Type} [Big B]
instance : Sized (At B) UInt64 := ⟨1, fun _ => rfl⟩
instance : Sized (At B) UInt32 := ⟨1, fun _ => rfl⟩
instance : Sized (At B) UInt8 := ⟨1, fun _ => rfl⟩
instance : Sized (At B) Bool := ⟨1, fun _ => rfl⟩
instance : Sized (At B) Int := ⟨1, fun _ => rfl⟩
end
end Go.Sh
