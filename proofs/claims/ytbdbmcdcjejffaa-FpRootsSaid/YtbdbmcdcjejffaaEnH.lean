/- Code on shadows: the runner of a function's body, and what a run says of a call. -/
import Derived.Test.YtbdbmcdcjejffaaEnG
import Derived.Scope
import Derived.RangeFuncLeaves
import Derived.RangeFuncNested
set_option linter.unusedVariables false
set_option linter.unusedSimpArgs false
set_option linter.unusedSectionVars false
namespace Go.Sh
open Go.RowKit

theorem stepR_scope {P : Program} {b : Frame} {a : Act} {k : List Item} {cs : List Frame} {w : World} {c : Code} :
    step P (lone (b.atR a (.code (.scope c) :: k)) cs w) = .next (lone (b.atR a (.code c :: .inScope c :: k)) cs w) :=
  step_lone_go (by simp [stepG, stepG.exec, Frame.atR])

theorem stepR_inScope {P : Program} {b : Frame} {a : Act} {k : List Item} {cs : List Frame} {w : World} {c : Code} :
    step P (lone (b.atR a (.inScope c :: k)) cs w) = .next (lone (b.atR a k) cs w) :=
  step_lone_go (by simp [stepG, stepG.exec, Frame.atR])

/-- A scope through which the run goes without a jump. -/
theorem wpIn_scope {F : Fence} {n : Nat} {P : Program} {c : Code} {Q : Exit → Act → World → Prop} {a : Act} {w : World} (h : c.wpIn F n P (Exit.noGoto Q) a w) : (Code.scope c).wpIn F n P Q a w := by
  intro b k cs hro hb hr
  have h0 : (lone (b.atR a (.code (.scope c) :: k)) cs w).fenced P F := fenced_calm hb hr rfl
  obtain ⟨e, a₁, w₁, hq, harr⟩ := h b (.inScope c :: k) cs hro hb hr
  cases e with
  | normal => exact ⟨.normal, a₁, w₁, hq, .head h0 stepR_scope (StepsIn.trans harr (.one (fenced_calm hb hr rfl) stepR_inScope))⟩
  | exit id =>
    have hx : exitTo id (.inScope c :: k) = exitTo id k := by simp [exitTo]
    exact ⟨.exit id, a₁, w₁, hq, fun k' hk => .head h0 stepR_scope (harr.1 k' (by rw [hx]; exact hk)),
      fun hr' hk => let ⟨k₁, h1, h2⟩ := harr.2 hr' (by rw [hx]; exact hk); ⟨k₁, h1, .head h0 stepR_scope h2⟩⟩
  | goto l => exact hq.elim
  | ret => exact ⟨_, a₁, w₁, hq, .of_steps (.one h0 stepR_scope) harr⟩
  | panic ch => exact ⟨_, a₁, w₁, hq, .of_steps (.one h0 stepR_scope) harr⟩
  | outgrown => exact ⟨_, a₁, w₁, hq, .of_steps (.one h0 stepR_scope) harr⟩

section
variable {A : Type} [Atom A]

/-- A loop, round by round. -/
def rounds (f : St A → Option (Ex × St A)) : Nat → St A → Option (Ex × St A)
  | 0, _ => none
  | k + 1, st =>
    match f { st with rd := st.rd + 1 } with
    | some (.normal, st') => rounds f k st'
    | r => r

/-- The number of a piece of code's first region. -/
def firstRegion : Code → Option Nat
  | .region id _ _ => some id
  | .seq x y => match firstRegion x with | some i => some i | none => firstRegion y
  | .cond _ x y => match firstRegion x with | some i => some i | none => firstRegion y
  | .block _ x => firstRegion x
  | .loop x => firstRegion x
  | .scope x => firstRegion x
  | .rangeFunc _ _ x y => match firstRegion x with | some i => some i | none => firstRegion y
  | _ => none

/-- The loops in a piece of code. -/
def loopsOf : Code → List Code
  | .seq x y => loopsOf x ++ loopsOf y
  | .cond _ x y => loopsOf x ++ loopsOf y
  | .block _ x => loopsOf x
  | .scope x => loopsOf x
  | .loop x => .loop x :: loopsOf x
  | .rangeFunc g ps x y => .rangeFunc g ps x y :: (loopsOf x ++ loopsOf y)
  | _ => []

/-- A cell, as one of the kind of another one. -/
def soft : SV A → SV A → SV A
  | .n _ _, .v (.int k z) => .n k z
  | .n _ _, .a x => (match Atom.int x with | some (k, z) => .n k z | none => .a x)
  | .b _, .v (.bool b) => .b b
  | .a _, s => (match atomOf s with | some x => .a x | none => s)
  | _, s => s

def softZ : List (SV A) → List (SV A) → List (SV A)
  | p :: ps, s :: l => soft p s :: softZ ps l
  | _, l => l

def softR (x : A) (l : List (SV A)) : List (SV A) :=
  match rowA (flat l) with
  | some r => (match Atom.like x r with | some b => [.a b] | none => [.a r])
  | none => l

/-- Cells, as those of another aggregate. -/
def softL (p l : List (SV A)) : List (SV A) :=
  match p, l with
  | [.a x], [s] => (match s with | .a y => (match Nat.beq (Atom.size y) 1 with | true => [s] | false => (match Atom.like x y with | some b => [.a b] | none => [s])) | s => [soft (.a x) s])
  | [.a x], l => softR x l
  | p, l => softZ p l

/-- What p forgets is forgotten; the rest is as p's kind has it. -/
def maskT : List (TV A) → List (TV A) → List (TV A)
  | .any :: p, _ :: t => .any :: maskT p t
  | .val _ q :: p, .val g l :: t => .val g (softL q l) :: maskT p t
  | _ :: p, x :: t => x :: maskT p t
  | [], t => t
  | _ :: _, [] => []

/-- The same of a block's cells. -/
def softB (p : List (SV A)) : List (SV A) → List (SV A)
  | .mk v n :: l => (match p with | .mk _ _ :: p => .mk v n :: softL p l | _ => .mk v n :: l)
  | l => softL p l

def maskM : Mem A → Mem A → Mem A
  | none :: p, _ :: m => none :: maskM p m
  | some q :: p, some b :: m => some ⟨softB q.cells b.cells, b.ty, b.ro⟩ :: maskM p m
  | some _ :: p, none :: m => none :: maskM p m
  | _, _ => []

/-- A loop that is told. -/
def told (c : Cfg A) (id : Option Nat) (st : St A) : Option (Ex × St A) :=
  match id with
  | some i =>
    match c.lp i with
    | some (pre, e, post) => some (e, ⟨post.t, post.m, st.rd, ((maskT pre.t st.t, maskM pre.m st.m, st.m.length, st.pd) = (pre.t, pre.m, pre.m.length, pre.pd)) :: st.vc, post.pd⟩)
    | none => none
  | none => none

def bindPs : List Tmp → List (TV A) → List (TV A) → List (TV A)
  | p :: ps, x :: xs, t => bindPs ps xs (setN t p x)
  | _, _, t => t

/-- One round of a loop over a function: the jump by which it leaves the loop, if it does. -/
def roundF (fa fb : St A → Option (Ex × St A)) (s : Ys A) (args : List (TV A)) (rd : Nat) (m : Mem A) (pd : Pds) : Option (Option Ex × Mem A × Pds × List Prop) :=
  if args.length = s.ps.length then
    match fa ⟨bindPs s.ps args s.t, m, rd, [], pd⟩ with
    | some (.normal, s1) =>
      match fb s1 with
      | some (.normal, s2) => some (none, s2.m, s2.pd, s2.vc)
      | some (e, s2) => some (some e, s2.m, s2.pd, s2.vc)
      | none => none
    | _ => none
  else none

/-- Calls of yield, with one loop more. -/
def pushY (fa fb : St A → Option (Ex × St A)) (s : Ys A) (yf : YF A) : YF A := fun i args rd m pd =>
  match pd with
  | [] => none
  | e :: rest =>
    if Nat.beq i s.ix then
      match e with
      | none =>
        match roundF fa fb s args rd m rest with
        | some (e', m', rest', vc) => some (e'.isNone, m', e' :: rest', vc)
        | none => none
      | some _ => none
    else
      match yf i args rd m rest with
      | some (b, m', rest', vc) => some (b, m', e :: rest', vc)
      | none => none

/-- A loop over a function, run where it stands. -/
def rangeX (c : Cfg A) (gf : FuncId) (cap : List (Nat × Nat)) (s : Ys A) (fa fb : St A → Option (Ex × St A)) (st : St A) : Option (Ex × St A) :=
  match c.it gf (s :: c.ys) (pushY fa fb s c.yf) (.val false [.y s.ix] :: capsTV cap) st.rd (st.m ++ [none]) (none :: st.pd) with
  | some (m', e :: pd', vc) => some ((match e with | none => .normal | some e => e), { st with m := m', pd := pd', vc := vc ++ st.vc })
  | _ => none

def exec (c : Cfg A) (fuel : Nat) : Code → St A → Option (Ex × St A)
  | .skip, st => some (.normal, st)
  | .label _, st => some (.normal, st)
  | .region _ ops draw, st =>
    match (if draw then execDraw c ops.toList st else execOps c ops.toList ops.toList st) with
    | some st' => some (.normal, st')
    | none => none
  | .seq x y, st =>
    match exec c fuel x st with
    | some (.normal, st') => exec c fuel y st'
    | r => r
  | .cond q x y, st =>
    match evO c st q with
    | some tv =>
      match boolOf tv with
      | some true => exec c fuel x st
      | some false => exec c fuel y st
      | none => none
    | none => none
  | .block id x, st =>
    match exec c fuel x st with
    | some (.exit id', st') => if id' = id then some (.normal, st') else some (.exit id', st')
    | r => r
  | .loop x, st =>
    match told c (firstRegion x) st with
    | some r => some r
    | none => rounds (exec c fuel x) fuel st
  | .rangeFunc g ps x y, st =>
    match told c (match firstRegion x with | some i => some i | none => firstRegion y) st with
    | some r => some r
    | none =>
      match evO c st g with
      | some (.val false [.f gf cap]) => rangeX c gf cap ⟨st.m.length, ps.toList, x, y, st.t⟩ (exec c fuel x) (exec c fuel y) st
      | _ => none
  | .scope x, st => exec c fuel x st
  | .exit id, st => some (.exit id, st)
  | .ret, st => some (.ret, st)
  | _, _ => none

omit [Atom A] in
theorem rounds_vc {f : St A → Option (Ex × St A)} (hf : ∀ st e st', f st = some (e, st') → ∀ p ∈ st.vc, p ∈ st'.vc) : ∀ {k : Nat} {st : St A} {e : Ex} {st' : St A}, rounds f k st = some (e, st') → ∀ p ∈ st.vc, p ∈ st'.vc
  | 0, _, _, _, h => by simp [rounds] at h
  | k + 1, st, e, st', h => by
    simp only [rounds] at h
    split at h
    · rename_i st1 h1
      intro p hp
      exact rounds_vc hf h p (hf _ _ _ h1 p hp)
    · exact hf { st with rd := st.rd + 1 } e st' h

theorem told_vc {c : Cfg A} {id : Option Nat} {st : St A} {e : Ex} {st' : St A} (h : told c id st = some (e, st')) : ∀ p ∈ st.vc, p ∈ st'.vc := by
  unfold told at h
  split at h
  · split at h
    · simp at h; obtain ⟨_, rfl⟩ := h; exact fun p hp => List.mem_cons_of_mem _ hp
    · cases h
  · cases h

omit [Atom A] in
theorem rangeX_vc {c : Cfg A} {gf : FuncId} {cap : List (Nat × Nat)} {s : Ys A} {fa fb : St A → Option (Ex × St A)} {st : St A} {e : Ex} {st' : St A} (h : rangeX c gf cap s fa fb st = some (e, st')) : ∀ p ∈ st.vc, p ∈ st'.vc := by
  unfold rangeX at h
  split at h
  · cases h; exact fun p hp => List.mem_append_right _ hp
  · cases h

theorem exec_vc {c : Cfg A} {fuel : Nat} : ∀ (x : Code) (st : St A) (e : Ex) (st' : St A), exec c fuel x st = some (e, st') → ∀ p ∈ st.vc, p ∈ st'.vc := by
  intro x
  induction x with
  | skip => intro st e st' h; simp [exec] at h; obtain ⟨_, rfl⟩ := h; exact fun _ h => h
  | label l => intro st e st' h; simp [exec] at h; obtain ⟨_, rfl⟩ := h; exact fun _ h => h
  | region id ops draw =>
    intro st e st' h
    simp only [exec] at h
    split at h
    · rename_i st1 h1
      simp at h
      obtain ⟨_, rfl⟩ := h
      cases draw
      · simp only [Bool.false_eq_true, if_false] at h1; exact execOps_vc h1
      · simp only [if_true] at h1; exact execDraw_vc h1
    · cases h
  | seq x y ihx ihy =>
    intro st e st' h
    simp only [exec] at h
    split at h
    · rename_i st1 h1
      intro p hp
      exact ihy _ _ _ h p (ihx _ _ _ h1 p hp)
    · exact ihx _ _ _ h
  | cond q x y ihx ihy =>
    intro st e st' h
    simp only [exec] at h
    split at h
    · split at h
      · exact ihx _ _ _ h
      · exact ihy _ _ _ h
      · cases h
    · cases h
  | block id x ih =>
    intro st e st' h
    simp only [exec] at h
    split at h
    · rename_i id' st1 h1
      split at h <;> (simp at h; obtain ⟨_, rfl⟩ := h; exact ih _ _ _ h1)
    · exact ih _ _ _ h
  | loop x ih =>
    intro st e st' h
    simp only [exec] at h
    split at h
    · rename_i r hr
      obtain rfl := Option.some.inj h
      exact told_vc hr
    · exact rounds_vc ih h
  | rangeFunc g ps x y _ _ =>
    intro st e st' h
    simp only [exec] at h
    split at h
    · rename_i r hr
      obtain rfl := Option.some.inj h
      exact told_vc hr
    · split at h
      · exact rangeX_vc h
      · cases h
  | scope x ih =>
    intro st e st' h
    simp only [exec] at h
    exact ih _ _ _ h
  | exit id => intro st e st' h; simp [exec] at h; obtain ⟨_, rfl⟩ := h; exact fun _ h => h
  | ret => intro st e st' h; simp [exec] at h; obtain ⟨_, rfl⟩ := h; exact fun _ h => h
  | _ => intro st e st' h; simp [exec] at h

/-- In a round of loop r: its record lies in memory that is not ours. -/
def RndOK (r : Option Nat) (X : Nat → Prop) (W0 : World) : Prop := ∀ l, r = some l → l < W0.heap.size ∧ ¬ X l ∧ ∃ rec : Loop, W0.heap[l]? = some (.loop rec)

theorem RndOK.none (X : Nat → Prop) (W0 : World) : RndOK none X W0 := fun _ h => by cases h

/-- A piece of code, run on shadows, says what it does. -/
def Sound (c : Cfg A) (x : Code) (f : St A → Option (Ex × St A)) : Prop :=
  ∀ (r : Option Nat) (n : Nat) (X : Nat → Prop) (W0 : World) (Q : Exit → Act → World → Prop) (st : St A) (e : Ex) (st' : St A) (β : Adr) (a : Act) (W : World), RndOK r X W0 → f st = some (e, st') → (∀ p ∈ st'.vc, p) → Rel c X W0 β st a W →
    (∀ β' a' W', Adr.le β β' → Rel c X W0 β' st' a' W' → Q e.toExit a' W') → x.wpIn (Fr r) n c.P Q a W

theorem rounds_sound {c : Cfg A} {r : Option Nat} {n : Nat} {x : Code} {f : St A → Option (Ex × St A)} (hf : Sound c x f) (hv : ∀ st e st', f st = some (e, st') → ∀ p ∈ st.vc, p ∈ st'.vc)
    {X : Nat → Prop} {W0 : World} {Q : Exit → Act → World → Prop} (hrnd : RndOK r X W0) : ∀ (k : Nat) (st : St A) (e : Ex) (st' : St A) (β : Adr) (a : Act) (W : World), rounds f k st = some (e, st') → (∀ p ∈ st'.vc, p) → Rel c X W0 β st a W →
      (∀ β' a' W', Adr.le β β' → Rel c X W0 β' st' a' W' → Q e.toExit a' W') → Code.roundsIn (Fr r) n c.P x Q k a W
  | 0, _, _, _, _, _, _, h, _, _, _ => by simp [rounds] at h
  | k + 1, st, e, st', β, a, W, h, hvc, hr, hQ => by
    simp only [rounds] at h
    rw [roundsIn_succ]
    split at h
    · rename_i st1 h1
      have hv1 : ∀ p ∈ st1.vc, p := fun p hp => hvc p (rounds_vc hv h p hp)
      refine hf r n X W0 _ _ .normal st1 β a W hrnd h1 hv1 ⟨hr.t, hr.m, hr.top, hr.d, hr.y⟩ (fun β' a' W' hle hr' => ?_)
      exact rounds_sound hf hv hrnd k st1 e st' β' a' W' h hvc hr' (fun β'' a'' W'' hle' hr'' => hQ β'' a'' W'' (Adr.le_trans hle hle') hr'')
    · rename_i hne
      refine hf r n X W0 _ _ e st' β a W hrnd h hvc ⟨hr.t, hr.m, hr.top, hr.d, hr.y⟩ (fun β' a' W' hle hr' => ?_)
      have := hQ β' a' W' hle hr'
      cases e with
      | normal => exact absurd h (hne st')
      | ret => exact this
      | exit id => exact this

/-- What a told loop does. -/
def SoundAt (c : Cfg A) (y : Code) (pre : St A) (e : Ex) (post : St A) : Prop :=
  ∀ (r : Option Nat) (n : Nat) (X : Nat → Prop) (W0 : World) (Q : Exit → Act → World → Prop) (β : Adr) (a : Act) (W : World), RndOK r X W0 → Rel c X W0 β pre a W →
    (∀ β' a' W', Adr.le β β' → Rel c X W0 β' post a' W' → Q e.toExit a' W') → y.wpIn (Fr r) n c.P Q a W

def LoopsOK (c : Cfg A) (x : Code) : Prop :=
  ∀ y ∈ loopsOf x, ∀ i pre e post, firstRegion y = some i → c.lp i = some (pre, e, post) → SoundAt c y pre e post

theorem soft_is {β : Adr} {p s : SV A} {vs : List Value} (h : s.Is β vs) : (soft p s).Is β vs := by
  unfold soft
  split
  · obtain ⟨rfl, _⟩ := h; exact rfl
  · split
    · rename_i k z hz
      have h1 : vs = _ := h
      rw [Atom.int_ok hz] at h1
      exact h1
    · exact h
  · obtain ⟨rfl, _⟩ := h; exact rfl
  · split
    · rename_i x hx
      exact atomOf_is h hx
    · exact h
  · exact h

theorem softZ_is {β : Adr} : ∀ {p l : List (SV A)} {vs : List Value}, LIs β l vs → LIs β (softZ p l) vs
  | [], l, vs, h => h
  | q :: p, [], vs, h => h
  | q :: p, s :: l, vs, ⟨x, y, h1, h2, e⟩ => ⟨x, y, soft_is h1, softZ_is h2, e⟩

theorem LIs.atom {β : Adr} {x : A} {vs : List Value} (h : vs = Atom.cells x) : LIs β [.a x] vs := ⟨vs, [], h, rfl, by simp⟩

theorem softR_is {β : Adr} {x : A} {l : List (SV A)} {vs : List Value} (h : LIs β l vs) : LIs β (softR x l) vs := by
  unfold softR
  split
  · rename_i r hr
    have h1 := rowA_is (flat_is h) hr
    split
    · rename_i b hb
      exact LIs.atom (by rw [Atom.like_ok hb]; exact h1)
    · exact LIs.atom h1
  · exact h

theorem softL_is {β : Adr} {p l : List (SV A)} {vs : List Value} (h : LIs β l vs) : LIs β (softL p l) vs := by
  unfold softL
  split
  · split
    · rename_i y
      split
      · exact h
      · split
        · rename_i b hb
          obtain ⟨u, w, h1, h2, e⟩ := h
          obtain rfl : w = [] := h2
          have h3 : u = Atom.cells y := h1
          exact LIs.atom (by rw [Atom.like_ok hb, e, h3, List.append_nil])
        · exact h
    · obtain ⟨u, w, h1, h2, e⟩ := h
      exact ⟨u, w, soft_is h1, h2, e⟩
  · exact softR_is h
  · exact softZ_is h

theorem maskT_is {β : Adr} : ∀ {p t : List (TV A)} {vs : List Value}, TsIs β t vs → TsIs β (maskT p t) vs
  | [], t, vs, h => by cases t <;> exact h
  | q :: _, [], _, h => by cases q <;> exact h
  | q :: p, x :: t, vs, ⟨v, r, h1, h2, e⟩ => by
    have ih := maskT_is (p := p) h2
    cases q with
    | any => exact ⟨v, r, trivial, ih, e⟩
    | val g q =>
      cases x with
      | val g' l =>
        refine ⟨v, r, ?_, ih, e⟩
        have h1' : VIs β g' l v := h1
        cases g' with
        | true => obtain ⟨us, k1, k2⟩ := h1'; exact ⟨us, softL_is k1, k2⟩
        | false => exact softL_is h1'
      | _ => exact ⟨v, r, h1, ih, e⟩
    | _ => cases x <;> exact ⟨v, r, h1, ih, e⟩

/-- The blocks of m' are those of m, in other words. -/
def MSub (m' m : Mem A) : Prop :=
  ∀ {i : Nat} {b' : Blk A}, nth m' i = some (some b') → ∃ b, nth m i = some (some b) ∧ b'.ty = b.ty ∧ b'.ro = b.ro ∧ (∀ (β : Adr) (vs : List Value), LIs β b.cells vs → LIs β b'.cells vs) ∧
    (∀ v n l', b'.vec = some (v, n, l') → ∃ l, b.vec = some (v, n, l) ∧ ∀ (β : Adr) (vs : List Value), LIs β l vs → LIs β l' vs) ∧ (b'.vec = none → b.vec = none)

theorem softB_is {β : Adr} {p l : List (SV A)} {vs : List Value} (h : LIs β l vs) : LIs β (softB p l) vs := by
  unfold softB
  split
  · obtain ⟨_, _, h1, _⟩ := h
    exact h1.elim
  · exact softL_is h

theorem soft_k {p s : SV A} {v n : Nat} (h : soft p s = .mk v n) : s = .mk v n := by
  unfold soft at h
  split at h
  · cases h
  · split at h <;> cases h
  · cases h
  · split at h
    · cases h
    · exact h
  · exact h

theorem softL_k {p l l' : List (SV A)} {v n : Nat} (h : softL p l = .mk v n :: l') : ∃ l0, l = .mk v n :: l0 := by
  have zz : ∀ {p l : List (SV A)}, softZ p l = .mk v n :: l' → ∃ l0, l = .mk v n :: l0 := by
    intro p l h
    cases p with
    | nil => exact ⟨l', h⟩
    | cons q p =>
      cases l with
      | nil => cases h
      | cons s l =>
        simp only [softZ, List.cons.injEq] at h
        exact ⟨l, by rw [soft_k h.1]⟩
  unfold softL at h
  split at h
  · split at h
    · split at h
      · cases h
      · split at h <;> cases h
    · simp only [List.cons.injEq] at h
      exact ⟨_, by rw [soft_k h.1]⟩
  · unfold softR at h
    split at h
    · split at h <;> cases h
    · exact ⟨_, h⟩
  · exact zz h

theorem softB_vec {q b : Blk A} : (∀ v n l', (⟨softB q.cells b.cells, b.ty, b.ro⟩ : Blk A).vec = some (v, n, l') → ∃ l, b.vec = some (v, n, l) ∧ ∀ (β : Adr) (vs : List Value), LIs β l vs → LIs β l' vs) ∧
    ((⟨softB q.cells b.cells, b.ty, b.ro⟩ : Blk A).vec = none → b.vec = none) := by
  obtain ⟨bc, ty, ro⟩ := b
  refine ⟨fun v n l' h => ?_, fun h => ?_⟩
  · unfold Blk.vec at h
    split at h
    · rename_i v0 n0 l0 heq
      simp only [Option.some.injEq, Prod.mk.injEq] at h
      obtain ⟨rfl, rfl, rfl⟩ := h
      change softB q.cells bc = _ at heq
      unfold softB at heq
      split at heq
      · rename_i v1 n1 l1
        split at heq
        · simp only [List.cons.injEq, SV.mk.injEq] at heq
          obtain ⟨⟨rfl, rfl⟩, rfl⟩ := heq
          exact ⟨l1, rfl, fun β vs h => softL_is h⟩
        · simp only [List.cons.injEq, SV.mk.injEq] at heq
          obtain ⟨⟨rfl, rfl⟩, rfl⟩ := heq
          exact ⟨l1, rfl, fun β vs h => h⟩
      · rename_i hne
        obtain ⟨l1, rfl⟩ := softL_k heq
        exact absurd rfl (hne _ _ _)
    · cases h
  · unfold Blk.vec at h ⊢
    split
    · rename_i v1 n1 l1 heq
      change bc = _ at heq
      subst heq
      exfalso
      simp only [softB] at h
      split at h
      · cases h
      · rename_i hne
        split at hne
        · exact hne _ _ _ rfl
        · exact hne _ _ _ rfl
    · rfl

theorem maskM_sub : ∀ {p m : Mem A}, MSub (maskM p m) m
  | none :: p, x :: m, 0, b, h => by simp [maskM, nth] at h
  | none :: p, x :: m, i + 1, b, h => by simp only [maskM, nth] at h ⊢; exact maskM_sub h
  | some q :: p, some x :: m, 0, b, h => by
    simp only [maskM, nth, Option.some.injEq] at h ⊢
    subst h
    exact ⟨x, rfl, rfl, rfl, fun β vs h => softB_is h, softB_vec.1, softB_vec.2⟩
  | some _ :: p, none :: m, 0, b, h => by simp [maskM, nth] at h
  | some _ :: p, some x :: m, i + 1, b, h => by simp only [maskM, nth] at h ⊢; exact maskM_sub h
  | some _ :: p, none :: m, i + 1, b, h => by simp only [maskM, nth] at h ⊢; exact maskM_sub h
  | [], m, i, b, h => by cases m <;> simp [maskM, nth] at h
  | q :: p, [], i, b, h => by cases q <;> simp [maskM, nth] at h

theorem MRel.sub {c : Cfg A} {X : Nat → Prop} {W0 W : World} {β : Adr} {m m' : Mem A} (h : MRel c X W0 β m W) (hs : MSub m' m) : MRel c X W0 β m' W := by
  have vin : ∀ {i b}, vecIn β m' i b → vecIn β m i b := by
    rintro i b ⟨blk, v, n, l, cap, g1, g2, g3⟩
    obtain ⟨b0, k1, k2, k3, k4, k5, k6⟩ := hs g1
    obtain ⟨l0, k7, _⟩ := k5 _ _ _ g2
    exact ⟨b0, v, n, l0, cap, k1, k7, g3⟩
  have win : ∀ {i b}, wrt β m' i b → wrt β m i b := by
    rintro i b (⟨blk, w1, w2, w3, w4⟩ | hw)
    · obtain ⟨b0, k1, k2, k3, k4, k5, k6⟩ := hs w1
      exact .inl ⟨b0, k1, k6 w2, by rw [← k3]; exact w3, w4⟩
    · exact .inr (vin hw)
  refine ⟨fun i b' hi hnv => ?_, fun i j bi bj b li lj hi hj => ?_, h.dom, h.ext, h.glob, h.old, h.nc, fun a v hk => ⟨(h.kn a v hk).1, (h.kn a v hk).2.1, fun i hw => (h.kn a v hk).2.2 i (win hw)⟩, fun i b' v n l' hi hv => ?_,
    fun i b hv j => ⟨fun blk hj => ?_, fun hv' => (h.sep i b (vin hv) j).2 (vin hv')⟩⟩
  rotate_left 2
  · obtain ⟨b, k1, k2, k3, k4, k5, k6⟩ := hs hi
    obtain ⟨l, k7, k8⟩ := k5 _ _ _ hv
    have g := h.vec i b v n l k1 k7
    refine ⟨g.free, g.last, ?_, g.nil⟩
    obtain ⟨bo, cap, vs, sz, g1, g2, g3, g4⟩ := g.lies
    rw [k2]
    exact ⟨bo, cap, vs, sz, g1, g2, k8 β vs g3, g4⟩
  · obtain ⟨b0, k1, _⟩ := hs hj
    exact (h.sep i b (vin hv) j).1 b0 k1
  · obtain ⟨b, k1, k2, k3, k4, k5, k6⟩ := hs hi
    obtain ⟨a, vs, fz, h1, h2, h3, h4⟩ := h.mem i b k1 (k6 hnv)
    exact ⟨a, vs, fz, h1, k4 β vs h2, by rw [k2]; exact h3, by rw [k3]; exact h4⟩
  · obtain ⟨_, k1, _⟩ := hs li
    obtain ⟨_, k2, _⟩ := hs lj
    exact h.inj i j _ _ b k1 k2 hi hj

theorem Rel.mask {c : Cfg A} {X : Nat → Prop} {W0 W : World} {β : Adr} {st pre : St A} {a : Act} (h : Rel c X W0 β st a W) (e : (maskT pre.t st.t, maskM pre.m st.m, st.m.length, st.pd) = (pre.t, pre.m, pre.m.length, pre.pd)) : Rel c X W0 β pre a W := by
  simp only [Prod.mk.injEq] at e
  obtain ⟨e1, e2, e3, e4⟩ := e
  refine ⟨⟨?_⟩, ?_, ?_, h.d, by rw [← e4]; exact h.y⟩
  · rw [← e1]; exact maskT_is h.t.tmps
  · refine h.m.sub ?_
    rw [← e2]
    exact maskM_sub
  · intro i hi
    exact h.top i (by omega)

theorem told_sound {c : Cfg A} {y : Code} {id : Option Nat} (hid : firstRegion y = id) (hl : ∀ i pre e post, firstRegion y = some i → c.lp i = some (pre, e, post) → SoundAt c y pre e post) : Sound c y (told c id) := by
  intro r n X W0 Q st e st' β a W hrnd h hvc hr hQ
  unfold told at h
  split at h
  · rename_i i
    split at h
    · rename_i pre e' post hlp
      obtain ⟨rfl, rfl⟩ := Prod.mk.inj (Option.some.inj h)
      have hpre : Rel c X W0 β pre a W := hr.mask (hvc _ List.mem_cons_self)
      refine hl i pre e' post hid hlp r n X W0 Q β a W hrnd hpre (fun β' a' W' hle hr' => hQ β' a' W' hle ⟨hr'.t, hr'.m, hr'.top, hr'.d, hr'.y⟩)
    · cases h
  · cases h

/-! ### A loop over a function -/

/-- What is ours: our blocks, the records of the loops whose yield is at hand, the put-off calls. -/
def own (c : Cfg A) (β : Adr) (m : Mem A) (b : Nat) : Prop :=
  (∃ i, wrt β m i b) ∨ (∃ s ∈ c.ys, β s.ix = some b) ∨ β.kp b ∨ ∃ a v, β.kn a v ∧ a.block = b

theorem own_ours {c : Cfg A} {X : Nat → Prop} {W0 W : World} {β : Adr} {m : Mem A} {pd : Pds} (hm : MRel c X W0 β m W) (hy : YAll X W0 β c.ys pd W) {b : Nat} (h : own c β m b) : W0.heap.size ≤ b ∨ X b := by
  rcases h with ⟨i, h1⟩ | ⟨s, h1, h2⟩ | h | ⟨a, v, h, rfl⟩
  · obtain ⟨_, _, _, g4⟩ := h1.block hm
    exact g4
  · obtain ⟨e, l, rec, k1, _, k3, _⟩ := hy.has s h1
    have : l = b := Option.some.inj (k1.symm.trans h2)
    subst this
    exact k3
  · exact (hm.nc b h).2
  · exact (hm.kn a v h).2.1

/-- An object that holds no cells, no record at hand, no put-off call, is not ours. -/
theorem own_not {c : Cfg A} {X : Nat → Prop} {W0 W : World} {β : Adr} {m : Mem A} (hm : MRel c X W0 β m W) {k : Nat} {o : Obj} (ho : W.heap[k]? = some o) (hc : o.isCells = false) (hs : ∀ s ∈ c.ys, β s.ix ≠ some k) (h : own c β m k) : β.kp k := by
  rcases h with ⟨i, h1⟩ | ⟨s, h1, h2⟩ | h | ⟨a, v, h, rfl⟩
  · obtain ⟨cs, t, g3, _⟩ := h1.block hm
    rw [g3] at ho
    cases ho
    cases hc
  · exact absurd h2 (hs s h1)
  · exact h
  · obtain ⟨cs, t, fz, g3⟩ := cell?_heap (hm.kn a v h).1
    rw [g3] at ho
    cases ho
    cases hc

theorem YAll.base {X X' : Nat → Prop} {W0 W0' : World} {β : Adr} {W : World} : ∀ {ss : List (Ys A)} {es : Pds}, YAll X W0 β ss es W → (∀ s ∈ ss, ∀ l, β s.ix = some l → W0'.heap.size ≤ l ∨ X' l) → YAll X' W0' β ss es W
  | [], [], _, _ => trivial
  | s :: ss, e :: es, ⟨⟨l, rec, h1, h2, _, h4⟩, k2, k3⟩, hn => ⟨⟨l, rec, h1, h2, hn s (by simp) l h1, h4⟩, k2, YAll.base k3 (fun s' hs' => hn s' (by simp [hs']))⟩
  | [], _ :: _, h, _ => h.elim
  | _ :: _, [], h, _ => h.elim

theorem Defs.base {ok ok' : Nat → Prop} {β : Adr} : ∀ {ds : List Deferred}, Defs ok β ds → (∀ D, β.kp D → ok D → ok' D) → Defs ok' β ds
  | [], _, _ => trivial
  | _ :: _, ⟨⟨D, h1, h2, h3, h4⟩, h5⟩, h => ⟨⟨D, h1, h2, h D h2 h3, h4⟩, Defs.base h5 h⟩

/-- As a run of its own: its start is W; what it may write is ours. -/
theorem Rel.rebase {c : Cfg A} {X : Nat → Prop} {W0 W : World} {β : Adr} {st : St A} {a : Act} (h : Rel c X W0 β st a W) : Rel c (own c β st.m) W β st a W := by
  refine ⟨h.t, ?_, h.top, h.d.base (fun D hD _ => .inr (.inr (.inr (.inl hD)))), h.y.base (fun s hs l hl => .inr (.inr (.inl ⟨s, hs, hl⟩)))⟩
  refine ⟨fun i blk hi hnv => ?_, h.m.inj, h.m.dom, Ext.refl _ _, h.m.glob, fun a v e => ?_, fun k hk => ⟨(h.m.nc k hk).1, .inr (.inr (.inr (.inl hk)))⟩,
    fun a v hk => ⟨(h.m.kn a v hk).1, .inr (.inr (.inr (.inr ⟨a, v, hk, rfl⟩))), (h.m.kn a v hk).2.2⟩, fun i blk v n l hi hv => (h.m.vec i blk v n l hi hv).kept (fun b cap hb _ => .inr (.inl ⟨i, .inr ⟨blk, v, n, l, cap, hi, hv, hb⟩⟩)) (fun _ _ _ => rfl), h.m.sep⟩
  · obtain ⟨b, us, fz, h1, h2, h3, h4⟩ := h.m.mem i blk hi hnv
    exact ⟨b, us, fz, h1, h2, h3, fun hro => ⟨(h4 hro).1, .inr (.inl ⟨i, .inl ⟨blk, hi, hnv, hro, h1⟩⟩)⟩⟩
  · obtain ⟨h1, h2, h3⟩ := h.m.old a v e
    refine ⟨h.m.cell e, Nat.lt_of_lt_of_le h2 h.m.ext.size, fun hx => ?_⟩
    rcases own_ours h.m h.y hx with h4 | h4
    · omega
    · exact h3 h4

theorem Rel.unbase {c : Cfg A} {X : Nat → Prop} {W0 W W' : World} {β β' : Adr} {st st' : St A} {a a' : Act} (h : Rel c X W0 β st a W) (h' : Rel c (own c β st.m) W β' st' a' W') (hle : Adr.le β β') : Rel c X W0 β' st' a' W' ∧ NX c β W W' := by
  have ours : ∀ {b}, (W.heap.size ≤ b ∨ own c β st.m b) → W0.heap.size ≤ b ∨ X b := by
    rintro b (hb | hb)
    · exact .inl (Nat.le_trans h.m.ext.size hb)
    · exact own_ours h.m h.y hb
  refine ⟨⟨h'.t, ⟨fun i blk hi hnv => ?_, h'.m.inj, h'.m.dom, ?_, h'.m.glob, h.m.old, fun k hk => ⟨(h'.m.nc k hk).1, ours (h'.m.nc k hk).2⟩,
    fun a v hk => ⟨(h'.m.kn a v hk).1, ours (h'.m.kn a v hk).2.1, (h'.m.kn a v hk).2.2⟩, fun i blk v n l hi hv => (h'.m.vec i blk v n l hi hv).kept (fun b cap hb ho => ours ho) (fun _ _ _ => rfl), h'.m.sep⟩, h'.top, h'.d.base (fun D _ hD => ours hD), ?_⟩, ?_⟩
  · obtain ⟨b, us, fz, h1, h2, h3, h4⟩ := h'.m.mem i blk hi hnv
    exact ⟨b, us, fz, h1, h2, h3, fun hro => ⟨(h4 hro).1, ours (h4 hro).2⟩⟩
  · refine ⟨h'.m.ext.os.trans h.m.ext.os, h'.m.ext.tape.trans h.m.ext.tape, h'.m.ext.output.trans h.m.ext.output, Nat.le_trans h.m.ext.size h'.m.ext.size, fun k hk hx => ?_⟩
    rw [h'.m.ext.block k (Nat.lt_of_lt_of_le hk h.m.ext.size) (fun hx' => ?_)]
    · exact h.m.ext.block k hk hx
    · rcases own_ours h.m h.y hx' with h5 | h5
      · omega
      · exact hx h5
  · refine h'.y.base (fun s hs l hl => ?_)
    obtain ⟨e, l', rec, k1, _, k3, _⟩ := h'.y.has s hs
    have : l' = l := Option.some.inj (k1.symm.trans hl)
    subst this
    exact ours k3
  · intro k o ho hc hs
    by_cases hk : own c β st.m k
    · have hkp := own_not h.m ho hc hs hk
      rw [(h.m.nc k hkp).1] at ho
      cases ho
      exact (h'.m.nc k (hle.kp k hkp)).1
    · rw [h'.m.ext.block k (Array.getElem?_eq_some_iff.1 ho).1 hk]
      exact ho

/-- A record that is not at hand turns. -/
theorem Rel.putLoop {c : Cfg A} {X : Nat → Prop} {W0 W : World} {β : Adr} {st : St A} {a : Act} (h : Rel c X W0 β st a W) {l : Nat} {rec : Loop} (hl : W.heap[l]? = some (.loop rec)) (ho : W0.heap.size ≤ l ∨ X l) (hs : ∀ s ∈ c.ys, β s.ix ≠ some l) (rec' : Loop) :
    Rel c X W0 β st a (W.putObj l (.loop rec')) := by
  have oth : ∀ {k : Nat} {o : Obj}, W.heap[k]? = some o → (∀ r, o ≠ .loop r) → (W.putObj l (.loop rec')).heap[k]? = some o := by
    intro k o hk hn
    rw [World.putObj_heap_other]
    · exact hk
    · rintro rfl
      rw [hl] at hk
      cases hk
      exact hn rec rfl
  have cells : ∀ {k : Nat} {cs t fz}, W.heap[k]? = some (.cells cs t fz) → (W.putObj l (.loop rec')).heap[k]? = W.heap[k]? := by
    intro k cs t fz hk
    rw [hk]
    exact oth hk (fun r e => by cases e)
  refine ⟨h.t, ⟨fun i blk hi hnv => ?_, h.m.inj, fun i b hb => by rw [World.putObj_size]; exact h.m.dom i b hb, ?_, h.m.glob, h.m.old, fun k hk => ⟨oth (h.m.nc k hk).1 (fun r e => by cases e), (h.m.nc k hk).2⟩, fun a v hk => ?_,
    fun i blk v n l' hi hv => (h.m.vec i blk v n l' hi hv).kept (fun _ _ _ h => h) (fun b cap hb => ?_), h.m.sep⟩, h.top, h.d, ?_⟩
  rotate_left 2
  · obtain ⟨k1, k2, k3⟩ := h.m.kn a v hk
    obtain ⟨cs, t, fz, k4⟩ := cell?_heap k1
    exact ⟨cell?_same k1 (cells k4), k2, k3⟩
  · obtain ⟨cs, t, k4, _⟩ := vecIn.block h.m ⟨blk, v, n, l', cap, hi, hv, hb⟩
    exact cells k4
  rotate_left 1
  · obtain ⟨b, us, fz, h1, h2, h3, h4⟩ := h.m.mem i blk hi hnv
    exact ⟨b, us, fz, h1, h2, oth h3 (fun r e => by cases e), h4⟩
  · refine ⟨h.m.ext.os, h.m.ext.tape, h.m.ext.output, by rw [World.putObj_size]; exact h.m.ext.size, fun k hk hx => ?_⟩
    rw [World.putObj_heap_other]
    · exact h.m.ext.block k hk hx
    · rintro rfl
      rcases ho with ho | ho
      · omega
      · exact hx ho
  · refine h.y.kept' (Adr.le_refl β) (fun s hs' k r hk hr => ?_)
    rw [World.putObj_heap_other]
    · exact hr
    · rintro rfl
      exact hs s hs' hk

theorem bind_is {β : Adr} : ∀ (ps : List Tmp) (args : List (TV A)) (vs : List Value) (t : List (TV A)) (us : Array Value), TsIs β args vs → TsIs β t us.toList →
    TsIs β (bindPs ps args t) ((ps.toArray.zip vs.toArray).foldl (fun t (x : Tmp × Value) => t.setIfInBounds x.1 x.2) us).toList := by
  intro ps args vs t us ha ht
  have e : (ps.toArray.zip vs.toArray).foldl (fun t (x : Tmp × Value) => t.setIfInBounds x.1 x.2) us = (ps.zip vs).foldl (fun t (x : Tmp × Value) => t.setIfInBounds x.1 x.2) us := by
    rw [← Array.foldl_toList]; simp
  rw [e]
  clear e
  induction ps generalizing args vs t us with
  | nil => simpa [bindPs] using ht
  | cons p ps ih =>
    cases args with
    | nil => obtain rfl : vs = [] := ha; simpa [bindPs] using ht
    | cons x xs =>
      obtain ⟨v, r, h1, h2, rfl⟩ := ha
      simp only [List.zip_cons_cons, List.foldl_cons, bindPs]
      exact ih xs r _ _ h2 (by simpa using ht.set h1)

/-- Calls of yield with one loop more are right. -/
theorem pushY_ok {c : Cfg A} (hc : YOK c) {fa fb : St A → Option (Ex × St A)} {s : Ys A} (ha : Sound c s.assign fa) (hb : Sound c s.body fb) (hvb : ∀ st e st', fb st = some (e, st') → ∀ p ∈ st.vc, p ∈ st'.vc) (c1 : Cfg A)
    (hP : c1.P = c.P) (hgl : c1.gl = c.gl) (hold : c1.old = c.old) (hys : c1.ys = s :: c.ys) (hyf : c1.yf = pushY fa fb s c.yf) : YOK c1 := by
  have mto : ∀ {X W0 β m W}, MRel c1 X W0 β m W → MRel c X W0 β m W := fun hm => ⟨hm.mem, hm.inj, hm.dom, hm.ext, by rw [← hgl]; exact hm.glob, by rw [← hold]; exact hm.old, hm.nc, hm.kn, by rw [← hP]; exact hm.vec, hm.sep⟩
  have mof : ∀ {X W0 β m W}, MRel c X W0 β m W → MRel c1 X W0 β m W := fun hm => ⟨hm.mem, hm.inj, hm.dom, hm.ext, by rw [hgl]; exact hm.glob, by rw [hold]; exact hm.old, hm.nc, hm.kn, by rw [hP]; exact hm.vec, hm.sep⟩
  intro i args rd m pd b m' pd' vc h hvc X W0 W β vs hm htop hy hvs l hl
  rw [hyf] at h
  rw [hys] at hy
  unfold pushY at h
  split at h
  · cases h
  · rename_i e rest
    obtain ⟨hat, hdis, hrest⟩ := hy
    split at h
    · rename_i hi
      have hi := Nat.eq_of_beq_eq_true hi
      subst hi
      split at h
      · split at h
        · rename_i e' m2 rest' vc2 hrf
          simp only [Option.some.injEq, Prod.mk.injEq] at h
          obtain ⟨rfl, rfl, rfl, rfl⟩ := h
          obtain ⟨l', rec, g1, g2, g3, g4, g5, g6, g7, g8, g9⟩ := hat
          obtain rfl : l' = l := Option.some.inj (g1.symm.trans hl)
          unfold roundF at hrf
          split at hrf
          · rename_i hlen
            have hdis' : ∀ s' ∈ c.ys, β s'.ix ≠ some l' := fun s' hs' e => hdis s' hs' (e.trans hl.symm)
            have hvl : vs.length = rec.params.size := by
              have h1 : rec.params.toList.length = s.ps.length := by rw [g4]
              have h2 : ∀ {l : List (TV A)} {vs : List Value}, TsIs β l vs → vs.length = l.length := by
                intro l
                induction l with
                | nil => rintro vs rfl; rfl
                | cons x l ih => rintro _ ⟨v, r, _, k, rfl⟩; simp [ih k]
              rw [h2 hvs]
              simp at h1
              omega
            refine ⟨rec, g2, hvl, fun r n => roundIn_of_wpIn trivial ?_⟩
            split at hrf
            · rename_i s1 h1
              have key : ∀ (e2 : Ex) (s2 : St A), fb s1 = some (e2, s2) → e' = (match e2 with | .normal => none | e => some e) → m2 = s2.m → rest' = s2.pd → vc2 = s2.vc →
                  rec.assign.wpIn ((Fr r).inRound l') n c1.P (Exit.then (fun a₁ w₁ => ∃ w₂, (Instr.beginRound l').run c1.P w₁ = .ok () w₂ ∧ rec.body.wpIn ((Fr r).inRound l') n c1.P (roundPost c1.P l' (fun e W' => e = .returned (.bool e'.isNone) ∧
                    ∃ β', Adr.le β β' ∧ MRel c1 X W0 β' m2 W' ∧ Top β' m2 ∧ YAll X W0 β' c1.ys (e' :: rest') W' ∧ NX c1 β W W')) a₁ w₂) (fun _ _ _ => False))
                    { tmps := (rec.params.zip vs.toArray).foldl (fun t (x : Tmp × Value) => t.setIfInBounds x.1 x.2) rec.tmps, defers := [] } W := by
                intro e2 s2 h2 he' hm2 hr2 hv2
                subst hm2 hr2 hv2
                have hv1 : ∀ p ∈ s1.vc, p := fun p hp => hvc p (hvb _ _ _ h2 p hp)
                have R0 : Rel c X W0 β ⟨bindPs s.ps args s.t, m, rd, [], rest⟩ { tmps := (rec.params.zip vs.toArray).foldl (fun t (x : Tmp × Value) => t.setIfInBounds x.1 x.2) rec.tmps, defers := [] } W := by
                  refine ⟨⟨?_⟩, mto hm, htop, trivial, hrest⟩
                  have := bind_is s.ps args vs s.t rec.tmps hvs g7
                  rw [← g4] at this ⊢
                  simpa using this
                have notown : ∀ {β1 : Adr} {m1 : Mem A} {W1 : World} {rec1 : Loop}, Adr.le β β1 → MRel c X W0 β1 m1 W1 → W1.heap[l']? = some (.loop rec1) → ¬ own c β1 m1 l' := by
                  intro β1 m1 W1 rec1 hle hm1 hl1 ho
                  have := own_not hm1 hl1 rfl (fun s' hs' e => by
                    obtain ⟨_, k, _, k1, _⟩ := hrest.has s' hs'
                    rw [hle.pl _ _ k1] at e
                    exact hdis' s' hs' (k1.trans e)) ho
                  rw [(hm1.nc _ this).1] at hl1
                  cases hl1
                have lift : ∀ {β1 : Adr}, Adr.le β β1 → ∀ s' ∈ c.ys, ∀ k, β s'.ix ≠ some k → β1 s'.ix ≠ some k := by
                  intro β1 hle s' hs' k hk e
                  obtain ⟨_, k', _, k1, _⟩ := hrest.has s' hs'
                  rw [hle.pl _ _ k1] at e
                  exact hk (k1.trans e)
                rw [hP, g5]
                show s.assign.wpIn (Fr (some l')) n c.P _ _ _
                refine ha (some l') n (own c β m) W _ _ .normal s1 β _ W (fun k hk => ?_) h1 hv1 R0.rebase (fun β1 a1 W1 hle1 R1' => ?_)
                · obtain rfl := Option.some.inj hk
                  exact ⟨(Array.getElem?_eq_some_iff.1 g2).1, notown (Adr.le_refl β) (mto hm) g2, rec, g2⟩
                · obtain ⟨R1, nx1⟩ := R0.unbase R1' hle1
                  have hl1 : W1.heap[l']? = some (.loop rec) := nx1 l' _ g2 rfl hdis'
                  have hdis1 : ∀ s' ∈ c.ys, β1 s'.ix ≠ some l' := fun s' hs' => lift hle1 s' hs' l' (hdis' s' hs')
                  refine ⟨_, run_beginRound hl1 g8, ?_⟩
                  have R2 := R1.putLoop hl1 g3 hdis1 { rec with state := .busy }
                  have hl2 : (W1.putObj l' (.loop { rec with state := .busy })).heap[l']? = some (.loop { rec with state := .busy }) := World.putObj_heap_same (Array.getElem?_eq_some_iff.1 hl1).1
                  refine Eq.mpr (congrArg (fun z : Code => z.wpIn (Fr (some l')) n c.P _ a1 _) g6) ?_
                  refine hb (some l') n (own c β1 s1.m) _ _ s1 e2 s2 β1 a1 _ (fun k hk => ?_) h2 hvc R2.rebase (fun β2 a2 W3 hle2 R3' => ?_)
                  · obtain rfl := Option.some.inj hk
                    exact ⟨(Array.getElem?_eq_some_iff.1 hl2).1, notown hle1 R2.m hl2, _, hl2⟩
                  · obtain ⟨R3, nx3⟩ := R2.unbase R3' hle2
                    have hl3 : W3.heap[l']? = some (.loop { rec with state := .busy }) := nx3 l' _ hl2 rfl hdis1
                    have hle := Adr.le_trans hle1 hle2
                    have hdis3 : ∀ s' ∈ c.ys, β2 s'.ix ≠ some l' := fun s' hs' => lift hle s' hs' l' (hdis' s' hs')
                    have fin : ∀ jump : Option Code, (match e' with | none => jump = none | some e => jump = some e.code) → ∃ v w', (Instr.endRound l' jump).run c.P W3 = .ok v w' ∧ Ending.returned v = .returned (.bool e'.isNone) ∧
                        ∃ β', Adr.le β β' ∧ MRel c1 X W0 β' s2.m w' ∧ Top β' s2.m ∧ YAll X W0 β' c1.ys (e' :: s2.pd) w' ∧ NX c1 β W w' := by
                      intro jump hj
                      have hl4 : ∀ o, (W3.putObj l' o).heap[l']? = some o := fun o => World.putObj_heap_same (Array.getElem?_eq_some_iff.1 hl3).1
                      have R4 := R3.putLoop hl3 g3 hdis3 { rec with state := if jump.isNone then .ready else .done, pending := jump }
                      refine ⟨_, _, run_endRound jump hl3, ?_, β2, hle, mof R4.m, R4.top, ?_, ?_⟩
                      · cases e' <;> simp only at hj <;> subst hj <;> rfl
                      · rw [hys]
                        refine ⟨⟨l', _, hle.pl _ _ hl, hl4 _, g3, g4, g5, g6, g7.mono hle, ?_⟩, fun s' hs' => ?_, R4.y⟩
                        · cases e' <;> simp only at hj <;> subst hj <;> exact ⟨rfl, rfl⟩
                        · rw [hle.pl _ _ hl]; exact hdis3 s' hs'
                      · intro k o hk ho hs
                        rw [hys] at hs
                        have hkl : k ≠ l' := fun e => hs s (by simp) (by rw [e]; exact hl)
                        have hs' : ∀ s' ∈ c.ys, β s'.ix ≠ some k := fun s' hs' => hs s' (by simp [hs'])
                        rw [World.putObj_heap_other hkl]
                        refine nx3 k o ?_ ho (fun s' h' => lift hle1 s' h' k (hs' s' h'))
                        rw [World.putObj_heap_other hkl]
                        exact nx1 k o hk ho hs'
                    cases e2 with
                    | normal => subst he'; obtain ⟨v, w', k1, k2, k3⟩ := fin none rfl; exact ⟨v, w', k1, k2, k3⟩
                    | ret => subst he'; obtain ⟨v, w', k1, k2, k3⟩ := fin (some .ret) rfl; exact ⟨v, w', k1, k2, k3⟩
                    | exit id => subst he'; obtain ⟨v, w', k1, k2, k3⟩ := fin (some (.exit id)) rfl; exact ⟨v, w', k1, k2, k3⟩
              split at hrf
              · rename_i s2 h2
                simp only [Option.some.injEq, Prod.mk.injEq] at hrf
                obtain ⟨rfl, rfl, rfl, rfl⟩ := hrf
                exact key .normal s2 h2 rfl rfl rfl rfl
              · rename_i e2 s2 hne h2
                simp only [Option.some.injEq, Prod.mk.injEq] at hrf
                obtain ⟨rfl, rfl, rfl, rfl⟩ := hrf
                refine key e2 s2 h2 ?_ rfl rfl rfl
                cases e2 with
                | normal => exact absurd rfl (hne)
                | _ => rfl
              · cases hrf
            · cases hrf
          · cases hrf
        · cases h
      · cases h
    · split at h
      · rename_i b2 m2 rest' vc2 hyf2
        simp only [Option.some.injEq, Prod.mk.injEq] at h
        obtain ⟨rfl, rfl, rfl, rfl⟩ := h
        obtain ⟨rec, h1, h2, h3⟩ := hc i args rd m rest _ _ _ _ hyf2 hvc X W0 W β vs (mto hm) htop hrest hvs l hl
        refine ⟨rec, h1, h2, fun r n => ?_⟩
        rw [hP]
        refine (h3 r n).mono ?_
        rintro e2 W' ⟨k0, β', k1, k2, k3, k4, k5⟩
        have hat' := hat
        obtain ⟨l0, rec0, g1, g2, g3⟩ := hat'
        have hnx : ∀ s' ∈ c.ys, β s'.ix ≠ some l0 := fun s' hs' e => hdis s' hs' (e.trans g1.symm)
        refine ⟨k0, β', k1, mof k2, k3, ?_, ?_⟩
        · rw [hys]
          refine ⟨hat.kept k1 (fun l1 r1 e1 e2 => ?_), fun s' hs' => ?_, k4⟩
          · obtain rfl : l0 = l1 := Option.some.inj (g1.symm.trans e1)
            exact k5 l0 _ e2 rfl hnx
          · obtain ⟨_, l2, _, j1, _⟩ := hrest.has s' hs'
            have := hdis s' hs'
            rw [j1, g1] at this
            rw [k1.pl _ _ j1, k1.pl _ _ g1]
            exact this
        · intro k o hk ho hs
          rw [hys] at hs
          exact k5 k o hk ho (fun s' hs' => hs s' (by simp [hs']))
      · cases h

/-- A place for what holds no cells. -/
theorem MRel.hole {c c1 : Cfg A} {X : Nat → Prop} {W0 W : World} {β : Adr} {m : Mem A} {l : Nat} (h : MRel c X W0 β m W) (hP : c1.P = c.P) (hgl : c1.gl = c.gl) (hold : c1.old = c.old) (hk : β m.length = none) (hl : l < W.heap.size) {kp : Nat → Prop}
    (hle : ∀ k, β.kp k → kp k) (hkp : ∀ k, kp k → W.heap[k]? = some (.deferred (some [])) ∧ (W0.heap.size ≤ k ∨ X k)) : MRel c1 X W0 ⟨(β.put m.length l).pl, kp, β.kn, β.gs⟩ (m ++ [none]) W := by
  have le1 : Adr.le β ⟨(β.put m.length l).pl, kp, β.kn, β.gs⟩ := ⟨(Adr.le_put hk).pl, hle, fun _ _ h => h, fun _ _ _ h => h⟩
  have at1 : ∀ {i b}, (⟨(β.put m.length l).pl, kp, β.kn, β.gs⟩ : Adr) i = some b → (i = m.length ∧ b = l) ∨ (i ≠ m.length ∧ β i = some b) := by
    intro i b hi
    change (if i = m.length then some l else β i) = some b at hi
    split at hi
    · rename_i e; exact .inl ⟨e, (Option.some.inj hi).symm⟩
    · rename_i e; exact .inr ⟨e, hi⟩
  have live : ∀ {i : Nat} {blk : Blk A}, nth (m ++ [none]) i = some (some blk) → nth m i = some (some blk) := by
    intro i blk hi
    have hlt := nth_lt hi
    simp at hlt
    by_cases e : i = m.length
    · subst e; rw [nth_snoc] at hi; simp at hi
    · rw [nth_append_lt (by omega)] at hi; exact hi
  have vin : ∀ {i b}, vecIn ⟨(β.put m.length l).pl, kp, β.kn, β.gs⟩ (m ++ [none]) i b → vecIn β m i b := by
    rintro i b ⟨blk, v, n, l', cap, g1, g2, g3⟩
    exact ⟨blk, v, n, l', cap, live g1, g2, g3⟩
  have atl : ∀ {i b} {blk : Blk A}, nth (m ++ [none]) i = some (some blk) → (⟨(β.put m.length l).pl, kp, β.kn, β.gs⟩ : Adr) i = some b → β i = some b := by
    intro i b blk hi hb
    have := nth_lt (live hi)
    rcases at1 hb with ⟨e, _⟩ | ⟨_, h⟩
    · omega
    · exact h
  refine ⟨fun i blk hi hnv => ?_, fun i j bi bj b li lj hi hj => ?_, fun i b hi => ?_, h.ext, by rw [hgl]; exact fun g i e => le1.pl _ _ (h.glob g i e), by rw [hold]; exact h.old, hkp, fun a v hkn => ?_, fun i blk v n l' hi hv => ?_, fun i b hv j => ?_⟩
  rotate_left 3
  · obtain ⟨k1, k2, k3⟩ := h.kn a v hkn
    refine ⟨k1, k2, fun i hw => ?_⟩
    rcases hw with ⟨blk, w1, w2, w3, w4⟩ | hw
    · exact k3 i (.inl ⟨blk, live w1, w2, w3, atl w1 w4⟩)
    · exact k3 i (.inr (vin hw))
  · have g := h.vec i blk v n l' (live hi) hv
    have hlt := nth_lt (live hi)
    rw [hP]
    refine g.mono le1 ?_ g.last
    show (if i = m.length then some l else β i) = none
    rw [if_neg (by omega)]
    exact g.free
  · obtain ⟨s1, s2⟩ := h.sep i b (vin hv) j
    exact ⟨fun blk hj e => s1 blk (live hj) (atl hj e), fun hv' => s2 (vin hv')⟩
  · obtain ⟨b, us, fz, h1, h2, h3, h4⟩ := h.mem i blk (live hi) hnv
    exact ⟨b, us, fz, le1.pl _ _ h1, h2.mono le1, h3, h4⟩
  · have hi' := nth_lt (live li)
    have hj' := nth_lt (live lj)
    rcases at1 hi with ⟨e, _⟩ | ⟨_, hi⟩
    · omega
    · rcases at1 hj with ⟨e, _⟩ | ⟨_, hj⟩
      · omega
      · exact h.inj i j bi bj b (live li) (live lj) hi hj
  · rcases at1 hi with ⟨_, rfl⟩ | ⟨_, hi⟩
    · exact hl
    · exact h.dom i b hi

/-- A loop over a function. -/
theorem rangeX_sound {c : Cfg A} (hc : CfgOK c) {g : Operand} {ps : Array Tmp} {x y : Code} {fa fb : St A → Option (Ex × St A)} (ha : Sound c x fa) (hb : Sound c y fb) (hvb : ∀ st e st', fb st = some (e, st') → ∀ p ∈ st.vc, p ∈ st'.vc)
    {gf : FuncId} {cap : List (Nat × Nat)} {r : Option Nat} {n : Nat} {X : Nat → Prop} {W0 W : World} {Q : Exit → Act → World → Prop} {st st' : St A} {e : Ex} {β : Adr} {a : Act} (hrnd : RndOK r X W0)
    (hg : evO c st g = some (.val false [.f gf cap])) (h : rangeX c gf cap ⟨st.m.length, ps.toList, x, y, st.t⟩ fa fb st = some (e, st')) (hvc : ∀ p ∈ st'.vc, p) (hr : Rel c X W0 β st a W)
    (hQ : ∀ β' a' W', Adr.le β β' → Rel c X W0 β' st' a' W' → Q e.toExit a' W') : (Code.rangeFunc g ps x y).wpIn (Fr r) n c.P Q a W := by
  obtain ⟨s, hs⟩ : ∃ s : Ys A, s = ⟨st.m.length, ps.toList, x, y, st.t⟩ := ⟨_, rfl⟩
  rw [← hs] at h
  unfold rangeX at h
  split at h
  · rename_i m' e0 pd' vc hit
    simp only [Option.some.injEq, Prod.mk.injEq] at h
    obtain ⟨he, rfl⟩ := h
    have hvc' : ∀ p ∈ vc, p := fun p hp => hvc p (List.mem_append_left _ hp)
    obtain ⟨cs, hcs, ev⟩ := LIs.single (evO_is hr.t hr.m hg : LIs β _ [a.eval g])
    simp at ev
    obtain ⟨c1, hc1⟩ : ∃ c1 : Cfg A, c1 = { c with ys := s :: c.ys, yf := pushY fa fb s c.yf } := ⟨_, rfl⟩
    have e1 : c1.P = c.P := by rw [hc1]
    have e2 : c1.gl = c.gl := by rw [hc1]
    have e3 : c1.old = c.old := by rw [hc1]
    have e4 : c1.ys = s :: c.ys := by rw [hc1]
    have e5 : c1.yf = pushY fa fb s c.yf := by rw [hc1]
    have yok : YOK c1 := pushY_ok hc.ys (by rw [hs]; exact ha) (by rw [hs]; exact hb) hvb c1 e1 e2 e3 e4 e5
    refine wpIn_rangeFunc ?_
    intro fn _
    -- what the loop's entry lays
    have entry : ∃ (l : Nat) (mark : List Deferred) (W1 : World) (D0 : Nat), (Instr.enterLoop fn a.tmps ps x y r).run c.P W = .ok (l, mark) W1 ∧ Keeps W W1 ∧ W.heap.size ≤ l ∧
        W1.heap[l]? = some (.loop { state := .ready, pending := none, fn, tmps := a.tmps, params := ps, assign := x, body := y, defers := D0 }) ∧
        (mark = [] ∨ (mark = [{ target := .collected W.heap.size, args := #[] }] ∧ W1.heap[W.heap.size]? = some (.deferred (some [])))) := by
      cases r with
      | none =>
        refine ⟨W.heap.size + 1, _, _, W.heap.size, run_enterLoop_outer _ _ _ _ _, (Keeps.alloc _ _).trans (Ext.mono (Keeps.alloc _ _) (fun _ _ h => h)), by omega, ?_, .inr ⟨rfl, ?_⟩⟩
        · have := World.alloc_heap_new (W.alloc (.deferred (some []))) (.loop { state := .ready, pending := none, fn, tmps := a.tmps, params := ps, assign := x, body := y, defers := W.heap.size })
          rwa [World.size_alloc] at this
        · exact (Below.heap_alloc _ _ _ (by simp)).trans (World.alloc_heap_new W _)
      | some l0 =>
        obtain ⟨k1, k2, rec0, k3⟩ := hrnd l0 rfl
        have k4 : W.heap[l0]? = some (.loop rec0) := by rw [hr.m.ext.block l0 k1 k2]; exact k3
        exact ⟨W.heap.size, [], _, rec0.defers, run_enterLoop_inner k4 _ _ _ _ _, Keeps.alloc _ _, Nat.le_refl _, World.alloc_heap_new W _, .inl rfl⟩
    obtain ⟨l, mark, W1, D0, hent, hkeep, hlge, hrec, hmark⟩ := entry
    have hk := (hr.top st.m.length (Nat.le_refl _)).1
    have hl1 : l < W1.heap.size := (Array.getElem?_eq_some_iff.1 hrec).1
    have hm1 := hr.m.keeps hkeep
    obtain ⟨β1, hβ1⟩ : ∃ β1 : Adr, β1 = ⟨(β.put st.m.length l).pl, fun k => β.kp k ∨ (mark ≠ [] ∧ k = W.heap.size), β.kn, β.gs⟩ := ⟨_, rfl⟩
    have le1 : Adr.le β β1 := by rw [hβ1]; exact ⟨(Adr.le_put hk).pl, fun k hk => .inl hk, fun _ _ h => h, fun _ _ _ h => h⟩
    have hM1 : MRel c1 X W0 β1 (st.m ++ [none]) W1 := by
      rw [hβ1]
      refine hm1.hole e1 e2 e3 hk hl1 (fun k hk => .inl hk) (fun k hk => ?_)
      rcases hk with hk | ⟨hne, rfl⟩
      · exact hm1.nc k hk
      · rcases hmark with hmk | ⟨_, hmk⟩
        · exact absurd hmk hne
        · exact ⟨hmk, .inl hr.m.ext.size⟩
    have hT1 : Top β1 (st.m ++ [none]) := by
      rw [hβ1]
      intro i hi
      simp at hi
      refine ⟨?_, (hr.top i (by omega)).2⟩
      show (if i = st.m.length then some l else β i) = none
      rw [if_neg (by omega)]
      exact (hr.top i (by omega)).1
    have hLl : β1 s.ix = some l := by
      rw [hβ1, hs]
      show (if st.m.length = st.m.length then some l else _) = some l
      rw [if_pos rfl]
    have hold : ∀ s' ∈ c.ys, ∃ l', β s'.ix = some l' ∧ l' < W.heap.size := by
      intro s' hs'
      obtain ⟨_, l', _, k1, k2, _⟩ := hr.y.has s' hs'
      exact ⟨l', k1, (Array.getElem?_eq_some_iff.1 k2).1⟩
    have hY1 : YAll X W0 β1 (s :: c.ys) (none :: st.pd) W1 := by
      refine ⟨⟨l, _, hLl, hrec, .inl (Nat.le_trans hr.m.ext.size hlge), by rw [hs], by rw [hs], by rw [hs], by rw [hs]; exact hr.t.tmps.mono le1, rfl, rfl⟩, fun s' hs' => ?_, hr.y.kept le1 hkeep.nc⟩
      obtain ⟨l', k1, k2⟩ := hold s' hs'
      rw [le1.pl _ _ k1, hLl]
      intro e
      have := Option.some.inj e
      omega
    have hargs : TsIs (A := A) β1 (.val false [.y s.ix] :: capsTV cap) (.func (.yield l) #[] #[] :: cs) := ⟨_, _, LIs.of_single ⟨l, hLl, rfl⟩, (capsTV_is hcs).mono le1, rfl⟩
    obtain ⟨eg, hcall⟩ := hc.its gf _ _ _ _ _ _ _ _ _ hit hvc' c1 e1 e2 e3 e4 e5 yok X W0 W1 β1 _ hM1 hT1 hY1 hargs
    have eargs : #[Value.func (.yield l) #[] #[]] ++ cs.toArray = (Value.func (.yield l) #[] #[] :: cs).toArray := Array.toList_inj.1 (by simp)
    refine ⟨l, mark, W1, { target := .fn (.func gf) cs.toArray, args := #[.func (.yield l) #[] #[]] }, W1, gf, #[.func (.yield l) #[] #[]] ++ cs.toArray, W1, hent, ?_, fun f' _ => trivial, ?_, fun hx => by simp [Fr, Fence.wide] at hx, ?_⟩
    · simp only [resolve, ev]
      simp [go_sem]
    · simp [invoke, go_sem, eg]
    · rw [eargs]
      refine (callsIn_fr hcall).mono ?_
      rintro e2' W2 ⟨⟨v, rfl⟩, β2, le2, hM2, hT2, ⟨hat, hdis, hrest⟩⟩
      obtain ⟨l', rec, g1, g2, g3, g4, g5, g6, g7, g8⟩ := hat
      obtain rfl : l = l' := Option.some.inj ((le2.pl _ _ hLl).symm.trans g1)
      have hns : rec.state ≠ .busy := by cases e0 <;> (obtain ⟨g8, _⟩ := g8; rw [g8]; simp)
      have hpe : rec.pending = e0.map Ex.code := by cases e0 <;> exact g8.2
      have hle := Adr.le_trans le1 le2
      refine ⟨rec.pending, _, run_endLoop g2 hns, ?_⟩
      have R : Rel c X W0 β2 { st with m := m', pd := pd', vc := vc ++ st.vc } { a with defers := mark ++ a.defers } (W2.putObj l (.loop { rec with state := .exhausted })) := by
        have hM2' : MRel c X W0 β2 m' W2 := ⟨hM2.mem, hM2.inj, hM2.dom, hM2.ext, by rw [← e2]; exact hM2.glob, by rw [← e3]; exact hM2.old, hM2.nc, hM2.kn, by rw [← e1]; exact hM2.vec, hM2.sep⟩
        have hd : Defs (fun k => W0.heap.size ≤ k ∨ X k) β2 (mark ++ a.defers) := by
          have hd0 := hr.d.mono hle
          rcases hmark with hmk | ⟨hmk, hD⟩
          · rw [hmk]; exact hd0
          · rw [hmk]
            refine ⟨⟨W.heap.size, rfl, le2.kp _ (by rw [hβ1]; exact .inr ⟨by rw [hmk]; simp, rfl⟩), .inl hr.m.ext.size, fun d' hd' => ?_⟩, hd0⟩
            have : ∀ {ds : List Deferred}, Defs (fun k => W0.heap.size ≤ k ∨ X k) β ds → ∀ d' ∈ ds, ∃ D, d' = { target := .collected D, args := #[] } ∧ β.kp D := by
              intro ds
              induction ds with
              | nil => intro _ d' h; cases h
              | cons d ds ih =>
                rintro ⟨⟨D, k1, k2, _⟩, k3⟩ d' hd'
                rcases List.mem_cons.1 hd' with rfl | hd'
                · exact ⟨D, k1, k2⟩
                · exact ih k3 d' hd'
            obtain ⟨D, rfl, hk2⟩ := this hr.d d' hd'
            have hlt := (Array.getElem?_eq_some_iff.1 (hr.m.nc D hk2).1).1
            intro e
            simp at e
            omega
        exact Rel.putLoop (c := c) (st := { st with m := m', pd := pd', vc := vc ++ st.vc }) (a := { a with defers := mark ++ a.defers }) ⟨⟨hr.t.tmps.mono hle⟩, hM2', hT2, hd, hrest⟩ g2 g3 (fun s' hs' e => hdis s' hs' (e.trans g1.symm)) _
      have hq := hQ β2 _ _ hle R
      split
      · rename_i hp
        rw [hpe] at hp
        cases e0 with
        | none => simp only at he; subst he; exact hq
        | some e0 => cases hp
      · rename_i cd hp
        rw [hpe] at hp
        cases e0 with
        | none => cases hp
        | some e0 =>
          obtain rfl := Option.some.inj hp
          simp only at he
          subst he
          cases e0 with
          | normal => exact wpIn_skip hq
          | ret => exact wpIn_ret hq
          | exit id => exact wpIn_exit hq
  · cases h

theorem exec_sound {c : Cfg A} (hc : CfgOK c) {fuel : Nat} : ∀ (x : Code), LoopsOK c x → Sound c x (exec c fuel x) := by
  intro x hl
  induction x with
  | skip =>
    intro r n X W0 Q st e st' β a W hrnd h hvc hr hQ
    simp [exec] at h
    obtain ⟨rfl, rfl⟩ := h
    exact wpIn_skip (hQ β a W (Adr.le_refl β) hr)
  | label l =>
    intro r n X W0 Q st e st' β a W hrnd h hvc hr hQ
    simp [exec] at h
    obtain ⟨rfl, rfl⟩ := h
    exact wpIn_label (hQ β a W (Adr.le_refl β) hr)
  | region id ops draw =>
    intro r n X W0 Q st e st' β a W hrnd h hvc hr hQ
    simp only [exec] at h
    split at h
    · rename_i st1 h1
      simp at h
      obtain ⟨rfl, rfl⟩ := h
      cases draw
      · simp only [Bool.false_eq_true, if_false] at h1
        exact wpIn_region_list (execOps_sound hc h1 hvc hr hQ)
      · simp only [if_true] at h1
        exact execDraw_sound hc h1 hvc hr hQ
    · cases h
  | seq x y ihx ihy =>
    intro r n X W0 Q st e st' β a W hrnd h hvc hr hQ
    simp only [exec] at h
    refine wpIn_seq ?_
    split at h
    · rename_i st1 h1
      have hv1 : ∀ p ∈ st1.vc, p := fun p hp => hvc p (exec_vc y _ _ _ h p hp)
      refine ihx (fun z hz => hl z (by simp [loopsOf, hz])) r n X W0 _ st .normal st1 β a W hrnd h1 hv1 hr (fun β' a' W' hle hr' => ?_)
      exact ihy (fun z hz => hl z (by simp [loopsOf, hz])) r n X W0 Q st1 e st' β' a' W' hrnd h hvc hr' (fun β'' a'' W'' hle' hr'' => hQ β'' a'' W'' (Adr.le_trans hle hle') hr'')
    · rename_i hne
      refine ihx (fun z hz => hl z (by simp [loopsOf, hz])) r n X W0 _ st e st' β a W hrnd h hvc hr (fun β' a' W' hle hr' => ?_)
      have := hQ β' a' W' hle hr'
      cases e with
      | normal => exact absurd h (hne st')
      | ret => exact this
      | exit id => exact this
  | cond q x y ihx ihy =>
    intro r n X W0 Q st e st' β a W hrnd h hvc hr hQ
    simp only [exec] at h
    split at h
    · rename_i tv hq
      have hi := evO_is hr.t hr.m hq
      split at h
      · rename_i hb
        exact wpIn_cond_true (boolOf_is hi hb) (ihx (fun z hz => hl z (by simp [loopsOf, hz])) r n X W0 Q _ e st' β a W hrnd h hvc hr hQ)
      · rename_i hb
        exact wpIn_cond_false (boolOf_is hi hb) (ihy (fun z hz => hl z (by simp [loopsOf, hz])) r n X W0 Q _ e st' β a W hrnd h hvc hr hQ)
      · cases h
    · cases h
  | block id x ih =>
    intro r n X W0 Q st e st' β a W hrnd h hvc hr hQ
    simp only [exec] at h
    refine wpIn_block ?_
    split at h
    · rename_i id' st1 h1
      split at h
      · rename_i hid
        simp at h
        obtain ⟨rfl, rfl⟩ := h
        refine ih (fun z hz => hl z (by simpa [loopsOf] using hz)) r n X W0 _ st (.exit id') st1 β a W hrnd h1 hvc hr (fun β' a' W' hle hr' => ?_)
        simp only [Ex.toExit, Exit.inBlock, hid, if_true]
        exact hQ β' a' W' hle hr'
      · rename_i hid
        simp at h
        obtain ⟨rfl, rfl⟩ := h
        refine ih (fun z hz => hl z (by simpa [loopsOf] using hz)) r n X W0 _ st (.exit id') st1 β a W hrnd h1 hvc hr (fun β' a' W' hle hr' => ?_)
        simp only [Ex.toExit, Exit.inBlock, hid, if_false]
        exact hQ β' a' W' hle hr'
    · rename_i hne
      refine ih (fun z hz => hl z (by simpa [loopsOf] using hz)) r n X W0 _ st e st' β a W hrnd h hvc hr (fun β' a' W' hle hr' => ?_)
      have := hQ β' a' W' hle hr'
      cases e with
      | normal => exact this
      | ret => exact this
      | exit id' => exact absurd h (hne id' st')
  | loop x ih =>
    intro r n X W0 Q st e st' β a W hrnd h hvc hr hQ
    simp only [exec] at h
    split at h
    · rename_i res ht
      obtain rfl := Option.some.inj h
      exact told_sound (y := .loop x) rfl (fun i pre e post h1 h2 => hl _ (by simp [loopsOf]) i pre e post h1 h2) r n X W0 Q st e st' β a W hrnd ht hvc hr hQ
    · exact wpIn_loop_rounds fuel (rounds_sound (ih (fun y hy => hl y (by simp [loopsOf, hy]))) (exec_vc x) hrnd fuel st e st' β a W h hvc hr hQ)
  | rangeFunc g ps x y ihx ihy =>
    intro r n X W0 Q st e st' β a W hrnd h hvc hr hQ
    simp only [exec] at h
    split at h
    · rename_i res ht
      obtain rfl := Option.some.inj h
      exact told_sound (y := .rangeFunc g ps x y) rfl (fun i pre e post h1 h2 => hl _ (by simp [loopsOf]) i pre e post h1 h2) r n X W0 Q st e st' β a W hrnd ht hvc hr hQ
    · split at h
      · rename_i gf cap hg
        exact rangeX_sound hc (ihx (fun z hz => hl z (by simp [loopsOf, hz]))) (ihy (fun z hz => hl z (by simp [loopsOf, hz]))) (exec_vc y) hrnd hg h hvc hr hQ
      · cases h
  | scope x ih =>
    intro r n X W0 Q st e st' β a W hrnd h hvc hr hQ
    simp only [exec] at h
    refine wpIn_scope (ih (fun z hz => hl z (by simpa [loopsOf] using hz)) r n X W0 _ st e st' β a W hrnd h hvc hr (fun β' a' W' hle hr' => ?_))
    have := hQ β' a' W' hle hr'
    cases e <;> exact this
  | exit id =>
    intro r n X W0 Q st e st' β a W hrnd h hvc hr hQ
    simp [exec] at h
    obtain ⟨rfl, rfl⟩ := h
    exact wpIn_exit (hQ β a W (Adr.le_refl β) hr)
  | ret =>
    intro r n X W0 Q st e st' β a W hrnd h hvc hr hQ
    simp [exec] at h
    obtain ⟨rfl, rfl⟩ := h
    exact wpIn_ret (hQ β a W (Adr.le_refl β) hr)
  | _ =>
    intro r n X W0 Q st e st' β a W hrnd h hvc hr hQ
    simp [exec] at h

/-! ### A function -/

def resV (c : Cfg A) (st : St A) : List ResultVar → Option (List (Bool × List (SV A)))
  | [] => some []
  | .tmp t :: r =>
    match nth st.t t, resV c st r with
    | some (.val g l), some rest => some ((g, l) :: rest)
    | _, _ => none
  | .cell p ty :: r =>
    match nth st.t p, resV c st r with
    | some tv, some rest =>
      match addrOf tv with
      | some (i, off) =>
        match nth st.m i with
        | some (some blk) =>
          match partV c.P ty blk.cells off with
          | some (.val g l) => some ((g, l) :: rest)
          | _ => none
        | _ => none
      | none => none
    | _, _ => none

def packV : List (Bool × List (SV A)) → TV A
  | [(g, l)] => .val g l
  | l => .tup l

/-- A call of a function with a body: its result, the memory behind it, the jumps, what must hold. -/
def runP (c : Cfg A) (fuel : Nat) (fn : Func) (args : List (TV A)) (m : Mem A) (pd : Pds) : Option (TV A × Mem A × Pds × List Prop) :=
  match fn.body with
  | some body =>
    match exec c fuel body ⟨args ++ List.replicate (fn.ntmps - args.length) undefT, m, 0, [], pd⟩ with
    | some (.exit _, _) => none
    | some (_, st) =>
      match resV c st fn.results.toList with
      | some l => some (packV l, st.m, st.pd, st.vc)
      | none => none
    | none => none
  | none => none

def run (c : Cfg A) (fuel : Nat) (fn : Func) (args : List (TV A)) (m : Mem A) : Option (TV A × Mem A × List Prop) :=
  match runP c fuel fn args m [] with
  | some (v, m', _, vc) => some (v, m', vc)
  | none => none

theorem TsIs.undefs (β : Adr) : ∀ n : Nat, TsIs β (List.replicate n (undefT : TV A)) (List.replicate n undef)
  | 0 => rfl
  | n + 1 => ⟨undef, _, undefT_is β, TsIs.undefs β n, rfl⟩

theorem TsIs.len {β : Adr} : ∀ {l : List (TV A)} {vs}, TsIs β l vs → vs.length = l.length
  | [], _, e => by subst e; rfl
  | _ :: _, _, ⟨v, r, _, h2, e⟩ => by subst e; simp [TsIs.len h2]

/-- How a result is read. -/
def resSem (a : Act) : ResultVar → Sem Value
  | .tmp t => pure (a.tmps.getD t undef)
  | .cell p t => do loadVar t (← asAddr (a.tmps.getD p undef))

theorem resV_run {c : Cfg A} {X : Nat → Prop} {W0 W : World} {β : Adr} {st : St A} {a : Act} (hr : Rel c X W0 β st a W) : ∀ {rs : List ResultVar} {l : List (Bool × List (SV A))}, resV c st rs = some l →
    ∃ vs, (rs.mapM (resSem a)).run c.P W = .ok vs W ∧ PsIs β l vs
  | [], l, h => by simp [resV] at h; subst h; exact ⟨[], by simp, rfl⟩
  | .tmp t :: r, l, h => by
    simp only [resV] at h
    split at h
    · rename_i g cs rest h1 h2
      simp at h; subst h
      obtain ⟨vs, e1, e2⟩ := resV_run hr h2
      obtain ⟨v, e3, e4⟩ := hr.t.tmps.nth h1
      refine ⟨v :: vs, ?_, v, vs, e4, e2, rfl⟩
      have e5 : a.tmps.getD t undef = v := by
        simp at e3
        rw [Array.getD_eq_getD_getElem?, e3]; rfl
      have e6 : (resSem a (.tmp t)).run c.P W = .ok v W := by simp [resSem, e5]
      simp only [List.mapM_cons, Sem.run_bind, Sem.run_pure, Result.andThen_ok, e6]
      rw [e1]; rfl
    · cases h
  | .cell p ty :: r, l, h => by
    simp only [resV] at h
    split at h
    · rename_i tv rest h1 h2
      split at h
      · rename_i i off h3
        split at h
        · rename_i blk h4
          split at h
          · rename_i g cs h5
            simp at h; subst h
            obtain ⟨vs, e1, e2⟩ := resV_run hr h2
            obtain ⟨v, e3, e4⟩ := hr.t.tmps.nth h1
            have e5 : a.tmps.getD p undef = v := by
              simp at e3
              rw [Array.getD_eq_getD_getElem?, e3]; rfl
            obtain ⟨b, hb, rfl⟩ := addrOf_is e4 h3
            obtain ⟨b', us, fz, g1, g2, g3, _⟩ := hr.m.mem' h4 hb
            have : b' = b := by rw [hb] at g1; exact (Option.some.inj g1).symm
            subst this
            obtain ⟨u, k1, k2⟩ := run_loadPart (P := c.P) (w := W) h5 g2 g3
            refine ⟨u :: vs, ?_, u, vs, k2, e2, rfl⟩
            have e6 : (resSem a (.cell p ty)).run c.P W = .ok u W := by simp [resSem, e5, asAddr, k1]
            simp only [List.mapM_cons, Sem.run_bind, Sem.run_pure, Result.andThen_ok, e6]
            rw [e1]; rfl
          · cases h
        · cases h
      · cases h
    · cases h

theorem results_run {c : Cfg A} {X : Nat → Prop} {W0 W : World} {β : Adr} {st : St A} {a : Act} {fn : Func} {l : List (Bool × List (SV A))} (hr : Rel c X W0 β st a W) (h : resV c st fn.results.toList = some l) :
    ∃ v, (results fn a.tmps).run c.P W = .ok v W ∧ (packV l).Is β v := by
  obtain ⟨vs, e1, e2⟩ := resV_run hr h
  have e3 : (fn.results.mapM (resSem a)).run c.P W = .ok vs.toArray W := by
    rw [Array.mapM_eq_mapM_toList, Sem.run_map, e1]
    rfl
  have e4 : results fn a.tmps = (do
      let vs ← fn.results.mapM (resSem a)
      pure (if h : vs.size = 1 then vs[0] else .tuple vs)) := by
    unfold results
    have : (fun x => match x with | ResultVar.tmp t => (pure (a.tmps.getD t undef) : Sem Value) | .cell p t => do loadVar t (← asAddr (a.tmps.getD p undef))) = resSem a := by
      funext x; cases x <;> rfl
    rw [← this]
    rfl
  rw [e4, Sem.run_bind]
  refine ⟨if h : vs.toArray.size = 1 then vs.toArray[0] else .tuple vs.toArray, ?_, ?_⟩
  · rw [e3]
    rfl
  · match l, vs, e2 with
    | [], _, e => obtain rfl := e; exact ⟨[], rfl, rfl⟩
    | [(g, cs)], _, ⟨v, r, h1, h2, e⟩ =>
      obtain rfl : r = [] := h2
      subst e
      exact h1
    | x :: y :: l, _, ⟨v, r, h1, ⟨u, r', h2, h3, e'⟩, e⟩ =>
      subst e' e
      have : ¬ ((v :: u :: r').toArray.size = 1) := by simp
      rw [dif_neg this]
      exact ⟨_, ⟨v, _, h1, ⟨u, r', h2, h3, rfl⟩, rfl⟩, rfl⟩

/-! ### Loops, by what holds between two rounds -/

def lowS (L : Nat) : SV A → Bool
  | .p i _ => Nat.blt i L
  | .s i _ _ _ => Nat.blt i L
  | .r i _ _ _ => Nat.blt i L
  | .y i => Nat.blt i L
  | .f _ cap => cap.all fun x => Nat.blt x.1 L
  | .gr i _ _ _ _ => Nat.blt i L
  | .ga i _ _ => Nat.blt i L
  | _ => true

def lowL (L : Nat) : List (SV A) → Bool
  | [] => true
  | s :: l => lowS L s && lowL L l

def lowP (L : Nat) : List (Bool × List (SV A)) → Bool
  | [] => true
  | x :: l => lowL L x.2 && lowP L l

def lowT (L : Nat) : TV A → Bool
  | .val _ l => lowL L l
  | .tup l => lowP L l
  | .any => true

def lowTs (L : Nat) : List (TV A) → Bool
  | [] => true
  | t :: l => lowT L t && lowTs L l

def lowM (L : Nat) : Mem A → Bool
  | [] => true
  | some b :: m => lowL L b.cells && lowM L m
  | none :: m => lowM L m

/-- Blocks from the memory's end on are not spoken of. -/
def lowSt (st : St A) : Bool := lowTs st.m.length st.t && lowM st.m.length st.m

def Adr.cut (β : Adr) (L : Nat) : Adr := ⟨fun i => if i < L then β i else none, β.kp, β.kn, fun i v => if i < L then β.gs i v else none⟩

theorem Adr.cut_gs {β : Adr} {L i v : Nat} (h : Nat.blt i L = true) : (β.cut L).gs i v = β.gs i v := by
  have : i < L := by simpa [Nat.blt_eq] using h
  show (if i < L then β.gs i v else none) = _
  rw [if_pos this]

theorem Adr.cut_at {β : Adr} {L i : Nat} (h : Nat.blt i L = true) : (β.cut L) i = β i := by
  have : i < L := by simpa [Nat.blt_eq] using h
  show (if i < L then β i else none) = _
  rw [if_pos this]

theorem capsIs.cut {β : Adr} {L : Nat} : ∀ {l : List (Nat × Nat)} {vs : List Value}, (l.all fun x => Nat.blt x.1 L) = true → capsIs β l vs → capsIs (β.cut L) l vs
  | [], _, _, h => h
  | (i, off) :: l, _, hl, ⟨b, r, h1, h2, e⟩ => by
    simp only [List.all_cons, Bool.and_eq_true] at hl
    exact ⟨b, r, by rw [Adr.cut_at hl.1]; exact h1, capsIs.cut hl.2 h2, e⟩

theorem SV.Is.cut {β : Adr} {L : Nat} {s : SV A} {vs : List Value} (hl : lowS L s = true) (h : s.Is β vs) : s.Is (β.cut L) vs := by
  cases s with
  | p i off => obtain ⟨b, h1, h2⟩ := h; exact ⟨b, by rw [Adr.cut_at hl]; exact h1, h2⟩
  | s i off len cap => obtain ⟨b, h1, h2⟩ := h; exact ⟨b, by rw [Adr.cut_at hl]; exact h1, h2⟩
  | r i off len z => obtain ⟨h0, b, h1, h2⟩ := h; exact ⟨h0, b, by rw [Adr.cut_at hl]; exact h1, h2⟩
  | y i => obtain ⟨b, h1, h2⟩ := h; exact ⟨b, by rw [Adr.cut_at hl]; exact h1, h2⟩
  | f g cap => obtain ⟨cs, h1, h2⟩ := h; exact ⟨cs, h1.cut hl, h2⟩
  | gr i v off d n => show growsIs off d n vs ((β.cut L).gs i v); rw [Adr.cut_gs hl]; exact h
  | ga i v off => show growsAt off vs ((β.cut L).gs i v); rw [Adr.cut_gs hl]; exact h
  | _ => exact h

theorem LIs.cut {β : Adr} {L : Nat} : ∀ {l : List (SV A)} {vs : List Value}, lowL L l = true → LIs β l vs → LIs (β.cut L) l vs
  | [], _, _, h => h
  | _ :: _, _, hl, ⟨x, y, h1, h2, e⟩ => by
    simp only [lowL, Bool.and_eq_true] at hl
    exact ⟨x, y, h1.cut hl.1, LIs.cut hl.2 h2, e⟩

theorem VIs.cut {β : Adr} {L : Nat} {g : Bool} {l : List (SV A)} {v : Value} (hl : lowL L l = true) (h : VIs β g l v) : VIs (β.cut L) g l v := by
  cases g with
  | true => obtain ⟨vs, h1, h2⟩ := h; exact ⟨vs, h1.cut hl, h2⟩
  | false => exact LIs.cut hl h

theorem PsIs.cut {β : Adr} {L : Nat} : ∀ {l : List (Bool × List (SV A))} {vs : List Value}, lowP L l = true → PsIs β l vs → PsIs (β.cut L) l vs
  | [], _, _, h => h
  | _ :: _, _, hl, ⟨v, r, h1, h2, e⟩ => by
    simp only [lowP, Bool.and_eq_true] at hl
    exact ⟨v, r, h1.cut hl.1, PsIs.cut hl.2 h2, e⟩

theorem TV.Is.cut {β : Adr} {L : Nat} {t : TV A} {v : Value} (hl : lowT L t = true) (h : t.Is β v) : t.Is (β.cut L) v := by
  cases t with
  | val g l => exact VIs.cut hl h
  | tup l => obtain ⟨vs, h1, h2⟩ := h; exact ⟨vs, h1.cut hl, h2⟩
  | any => trivial

theorem TsIs.cut {β : Adr} {L : Nat} : ∀ {l : List (TV A)} {vs : List Value}, lowTs L l = true → TsIs β l vs → TsIs (β.cut L) l vs
  | [], _, _, h => h
  | _ :: _, _, hl, ⟨v, r, h1, h2, e⟩ => by
    simp only [lowTs, Bool.and_eq_true] at hl
    exact ⟨v, r, h1.cut hl.1, TsIs.cut hl.2 h2, e⟩

omit [Atom A] in
theorem lowM_at {L : Nat} : ∀ {m : Mem A} {i : Nat} {b : Blk A}, lowM L m = true → nth m i = some (some b) → lowL L b.cells = true
  | some x :: m, 0, b, h, e => by
    simp only [lowM, Bool.and_eq_true] at h
    simp [nth] at e; subst e
    exact h.1
  | some x :: m, i + 1, b, h, e => by
    simp only [lowM, Bool.and_eq_true] at h
    exact lowM_at h.2 e
  | none :: m, 0, b, h, e => by simp [nth] at e
  | none :: m, i + 1, b, h, e => lowM_at (m := m) h e
  | [], i, b, h, e => by simp [nth] at e

theorem YAll.cut {X : Nat → Prop} {W0 : World} {β0 β : Adr} {L : Nat} (h0 : ∀ i, L ≤ i → β0 i = none) (hle : Adr.le β0 β) {W W1 : World} : ∀ {ss : List (Ys A)} {es es0 : Pds}, YAll X W0 β ss es W → YAll X W0 β0 ss es0 W1 → (ss.all fun s => lowTs L s.t) = true → YAll X W0 (β.cut L) ss es W
  | [], [], _, _, _, _ => trivial
  | s :: ss, e :: es, e0 :: es0, ⟨⟨l, rec, h1, h2, h3, h4, h5, h6, h7, h8⟩, k2, k3⟩, ⟨⟨l', _, g1, _⟩, _, g3⟩, hl => by
    simp only [List.all_cons, Bool.and_eq_true] at hl
    have lt : ∀ {i b}, β0 i = some b → Nat.blt i L = true := by
      intro i b hi
      rw [Nat.blt_eq]
      rcases Nat.lt_or_ge i L with h | h
      · exact h
      · rw [h0 i h] at hi; cases hi
    refine ⟨⟨l, rec, by rw [Adr.cut_at (lt g1)]; exact h1, h2, h3, h4, h5, h6, TsIs.cut hl.1 h7, h8⟩, fun s' hs' => ?_, YAll.cut h0 hle k3 g3 hl.2⟩
    obtain ⟨_, l2, _, j1, _⟩ := g3.has s' hs'
    rw [Adr.cut_at (lt g1), Adr.cut_at (lt j1)]
    exact k2 s' hs'
  | [], _ :: _, _, h, _, _ => h.elim
  | _ :: _, [], _, h, _, _ => h.elim
  | _ :: _, _ :: _, [], _, h, _ => h.elim

/-- A state behind a round, with what is not spoken of let go: new blocks too. -/
theorem Rel.trunc {c : Cfg A} {X : Nat → Prop} {W0 W W1 : World} {β0 β : Adr} {st s' : St A} {a : Act} {pd0 : Pds} (h : Rel c X W0 β st a W) (h0 : Top β0 s'.m) (hle : Adr.le β0 β) (hg : ∀ g i, c.gl g = some i → β0 i = some g) (hy0 : YAll X W0 β0 c.ys pd0 W1)
    (e1 : maskT s'.t st.t = s'.t) (e2 : maskM s'.m st.m = s'.m) (e3 : st.pd = s'.pd) (hlow : lowSt s' = true) (hlowY : (c.ys.all fun s => lowTs s'.m.length s.t) = true) : Adr.le β0 (β.cut s'.m.length) ∧ Rel c X W0 (β.cut s'.m.length) s' a W := by
  simp only [lowSt, Bool.and_eq_true] at hlow
  have hcut : ∀ {i b}, (β.cut s'.m.length) i = some b → i < s'.m.length ∧ β i = some b := by
    intro i b hi
    change (if i < s'.m.length then β i else none) = some b at hi
    split at hi
    · rename_i hlt; exact ⟨hlt, hi⟩
    · cases hi
  have hle' : Adr.le β0 (β.cut s'.m.length) := by
    refine ⟨fun i b hi => ?_, hle.kp, hle.kn, fun i v x hi => ?_⟩
    · have hlt : i < s'.m.length := by
        rcases Nat.lt_or_ge i s'.m.length with h | h
        · exact h
        · rw [(h0 i h).1] at hi; cases hi
      rw [Adr.cut_at (by simpa [Nat.blt_eq] using hlt)]
      exact hle.pl i b hi
    · have hlt : i < s'.m.length := by
        rcases Nat.lt_or_ge i s'.m.length with h | h
        · exact h
        · rw [(h0 i h).2] at hi; cases hi
      rw [Adr.cut_gs (by simpa [Nat.blt_eq] using hlt)]
      exact hle.gs i v x hi
  have hsub : MSub s'.m st.m := by rw [← e2]; exact maskM_sub
  have hm' := h.m.sub hsub
  refine ⟨hle', ⟨⟨?_⟩, ?_, ?_, ?_, ?_⟩⟩
  · refine TsIs.cut hlow.1 ?_
    rw [← e1]
    exact maskT_is h.t.tmps
  · have low : ∀ {i : Nat} {blk : Blk A}, nth s'.m i = some (some blk) → Nat.blt i s'.m.length = true := fun hi => by simpa [Nat.blt_eq] using nth_lt hi
    have vin : ∀ {i b}, vecIn (β.cut s'.m.length) s'.m i b → vecIn β s'.m i b := by
      rintro i b ⟨blk, v, n, l, cap, g1, g2, g3⟩
      rw [Adr.cut_gs (low g1)] at g3
      exact ⟨blk, v, n, l, cap, g1, g2, g3⟩
    refine ⟨fun i blk hi hnv => ?_, fun i j bi bj b li lj hi hj => hm'.inj i j bi bj b li lj (hcut hi).2 (hcut hj).2, fun i b hi => h.m.dom i b (hcut hi).2, h.m.ext, fun g i e => hle'.pl i g (hg g i e), h.m.old, h.m.nc, fun a v hk => ?_, fun i blk v n l hi hv => ?_,
      fun i b hv j => ⟨fun blk hj e => (hm'.sep i b (vin hv) j).1 blk hj (hcut e).2, fun hv' => (hm'.sep i b (vin hv) j).2 (vin hv')⟩⟩
    rotate_left 1
    · obtain ⟨k1, k2, k3⟩ := hm'.kn a v hk
      refine ⟨k1, k2, fun i hw => ?_⟩
      rcases hw with ⟨blk, w1, w2, w3, w4⟩ | hw
      · exact k3 i (.inl ⟨blk, w1, w2, w3, (hcut w4).2⟩)
      · exact k3 i (.inr (vin hw))
    · have g := hm'.vec i blk v n l hi hv
      have hcell := lowM_at hlow.2 hi
      have hl : lowL s'.m.length l = true := by
        unfold Blk.vec at hv
        split at hv
        · rename_i heq
          simp only [Option.some.injEq, Prod.mk.injEq] at hv
          obtain ⟨_, _, rfl⟩ := hv
          rw [heq] at hcell
          simp only [lowL, Bool.and_eq_true] at hcell
          exact hcell.2
        · cases hv
      refine ⟨by rw [Adr.cut_at (low hi)]; exact g.free, fun v' hv' => by rw [Adr.cut_gs (low hi)]; exact g.last v' hv', ?_, fun cap hc => g.nil cap (by rw [Adr.cut_gs (low hi)] at hc; exact hc)⟩
      obtain ⟨bo, cap, vs, sz, g1, g2, g3, g4⟩ := g.lies
      exact ⟨bo, cap, vs, sz, by rw [Adr.cut_gs (low hi)]; exact g1, g2, g3.cut hl, g4⟩
    obtain ⟨b, vs, fz, h1, h2, h3, h4⟩ := hm'.mem i blk hi hnv
    exact ⟨b, vs, fz, by rw [Adr.cut_at (by simpa [Nat.blt_eq] using nth_lt hi)]; exact h1, h2.cut (lowM_at hlow.2 hi), h3, h4⟩
  · intro i hi
    refine ⟨?_, fun v => ?_⟩
    · show (if i < s'.m.length then β i else none) = none
      rw [if_neg (by omega)]
    · show (if i < s'.m.length then β.gs i v else none) = none
      rw [if_neg (by omega)]
  · have : ∀ {ds : List Deferred} {ok : Nat → Prop}, Defs ok β ds → Defs ok (β.cut s'.m.length) ds := by
      intro ds ok
      induction ds with
      | nil => exact fun _ => trivial
      | cons d ds ih => rintro ⟨⟨D, k1, k2, k3⟩, k4⟩; exact ⟨⟨D, k1, k2, k3⟩, ih k4⟩
    exact this h.d
  · rw [← e3]
    exact h.y.cut (fun i hi => (h0 i hi).1) hle hy0 hlowY

/-- The same program, the same outside memory, the same loops over functions. -/
structure Like (c c' : Cfg A) : Prop where
  P : c'.P = c.P
  gl : c'.gl = c.gl
  old : c'.old = c.old
  ys : c'.ys = c.ys

theorem MRel.like {c c' : Cfg A} (hP : c'.P = c.P) (hgl : c'.gl = c.gl) (hold : c'.old = c.old) {X : Nat → Prop} {W0 W : World} {β : Adr} {m : Mem A} (hm : MRel c X W0 β m W) : MRel c' X W0 β m W :=
  ⟨hm.mem, hm.inj, hm.dom, hm.ext, by rw [hgl]; exact hm.glob, by rw [hold]; exact hm.old, hm.nc, hm.kn, by rw [hP]; exact hm.vec, hm.sep⟩
theorem Rel.like {c c' : Cfg A} (h : Like c c') {X : Nat → Prop} {W0 W : World} {β : Adr} {st : St A} {a : Act} (hr : Rel c X W0 β st a W) : Rel c' X W0 β st a W :=
  ⟨hr.t, hr.m.like h.P h.gl h.old, hr.top, hr.d, by rw [h.ys]; exact hr.y⟩
omit [Atom A] in
theorem Like.symm {c c' : Cfg A} (h : Like c c') : Like c' c := ⟨h.P.symm, h.gl.symm, h.old.symm, h.ys.symm⟩
omit [Atom A] in
theorem Like.refl (c : Cfg A) : Like c c := ⟨rfl, rfl, rfl, rfl⟩

/-- One round: from s to s', left by e. -/
def Round (c : Cfg A) (x : Code) (s : St A) (e : Ex) (s' : St A) : Prop :=
  ∃ (c' : Cfg A) (fuel : Nat) (t : List (TV A)) (m : Mem A) (vc : List Prop), Like c c' ∧ CfgOK c' ∧ LoopsOK c' x ∧
    (exec c' fuel x ⟨s.t, s.m, 0, [], s.pd⟩).map (fun q => (q.1, maskT s'.t q.2.t, maskM s'.m q.2.m, q.2.pd, q.2.vc)) = some (e, t, m, s'.pd, vc) ∧ (∀ p ∈ vc, p) ∧ t = s'.t ∧ m = s'.m ∧ (lowSt s' && (c.ys.all fun z => lowTs s'.m.length z.t)) = true ∧ s'.m.length = s.m.length

theorem Round.sound {c : Cfg A} {x : Code} {s s' : St A} {e : Ex} (h : Round c x s e s') {r : Option Nat} {n : Nat} {X : Nat → Prop} {W0 W : World} {Q : Exit → Act → World → Prop} {β : Adr} {a : Act} (hrnd : RndOK r X W0) (hr : Rel c X W0 β s a W)
    (hQ : ∀ β' a' W', Adr.le β β' → Rel c X W0 β' s' a' W' → Q e.toExit a' W') : x.wpIn (Fr r) n c.P Q a W := by
  obtain ⟨c', fuel, t, m, vc, hlike, hc, hl, h1, h2, rfl, rfl, h3, h4⟩ := h
  simp only [Bool.and_eq_true] at h3
  cases hx : exec c' fuel x ⟨s.t, s.m, 0, [], s.pd⟩ with
  | none => rw [hx] at h1; cases h1
  | some q =>
    obtain ⟨e', st'⟩ := q
    rw [hx] at h1
    simp only [Option.map_some, Option.some.injEq, Prod.mk.injEq] at h1
    obtain ⟨rfl, k1, k2, kp, rfl⟩ := h1
    have hr' := hr.like hlike
    rw [← hlike.P]
    refine exec_sound hc x hl r n X W0 Q _ e' st' β a W hrnd hx h2 ⟨hr'.t, hr'.m, hr'.top, hr'.d, hr'.y⟩ (fun β' a' W' hle hr2 => ?_)
    obtain ⟨k3, k4⟩ := hr2.trunc (s' := s') (β0 := β) (fun i hi => hr.top i (by omega)) hle hr'.m.glob hr'.y k1 k2 kp h3.1 (by rw [hlike.ys]; exact h3.2)
    exact hQ _ a' W' k3 (k4.like hlike.symm)

/-- A loop: N rounds that go on, and one that leaves. -/
theorem loopAt {c : Cfg A} {x : Code} {inv : Nat → St A} {N : Nat} {e : Ex} {post : St A} (he : e ≠ .normal) (step : ∀ k, k < N → Round c x (inv k) .normal (inv (k + 1)))
    (last : Round c x (inv N) e post) : SoundAt c (.loop x) (inv 0) e post := by
  intro r n X W0 Q β a W hrnd hr hQ
  refine wpIn_loop_rounds (N + 1) ?_
  have key : ∀ d k, k ≤ N → N - k = d → ∀ β' a' W', Adr.le β β' → Rel c X W0 β' (inv k) a' W' → Code.roundsIn (Fr r) n c.P x Q (d + 1) a' W' := by
    intro d
    induction d with
    | zero =>
      intro k hk hd β' a' W' hle hr'
      have : k = N := by omega
      subst this
      rw [roundsIn_succ]
      refine last.sound hrnd hr' (fun β'' a'' W'' hle' hr'' => ?_)
      have := hQ β'' a'' W'' (Adr.le_trans hle hle') hr''
      cases e with
      | normal => exact absurd rfl he
      | ret => exact this
      | exit id => exact this
    | succ d ih =>
      intro k hk hd β' a' W' hle hr'
      rw [roundsIn_succ]
      exact (step k (by omega)).sound hrnd hr' (fun β'' a'' W'' hle' hr'' => ih (k + 1) (by omega) (by omega) β'' a'' W'' (Adr.le_trans hle hle') hr'')
  exact key N 0 (Nat.zero_le _) rfl β a W (Adr.le_refl β) hr

/-! ### A function's contract -/

section
variable {pl : Nat → Option Nat} {kq kq' : Nat → Prop} {kn : Addr → Value → Prop} {gs : Nat → Nat → Option (Option Nat × Nat)}

theorem capsIs.kp : ∀ {l : List (Nat × Nat)} {vs : List Value}, capsIs ⟨pl, kq, kn, gs⟩ l vs → capsIs ⟨pl, kq', kn, gs⟩ l vs
  | [], _, h => h
  | (_, _) :: _, _, ⟨b, r, h1, h2, e⟩ => ⟨b, r, h1, capsIs.kp h2, e⟩

theorem SV.Is.kp {s : SV A} {vs : List Value} (h : s.Is ⟨pl, kq, kn, gs⟩ vs) : s.Is ⟨pl, kq', kn, gs⟩ vs := by
  cases s with
  | f g cap => obtain ⟨cs, h1, h2⟩ := h; exact ⟨cs, h1.kp, h2⟩
  | _ => exact h

theorem LIs.kp : ∀ {l : List (SV A)} {vs : List Value}, LIs ⟨pl, kq, kn, gs⟩ l vs → LIs ⟨pl, kq', kn, gs⟩ l vs
  | [], _, h => h
  | _ :: _, _, ⟨x, y, h1, h2, e⟩ => ⟨x, y, h1.kp, LIs.kp h2, e⟩

theorem VIs.kp {g : Bool} {l : List (SV A)} {v : Value} (h : VIs ⟨pl, kq, kn, gs⟩ g l v) : VIs ⟨pl, kq', kn, gs⟩ g l v := by
  cases g with
  | true => obtain ⟨vs, h1, h2⟩ := h; exact ⟨vs, h1.kp, h2⟩
  | false => exact LIs.kp h

theorem PsIs.kp : ∀ {l : List (Bool × List (SV A))} {vs : List Value}, PsIs ⟨pl, kq, kn, gs⟩ l vs → PsIs ⟨pl, kq', kn, gs⟩ l vs
  | [], _, h => h
  | _ :: _, _, ⟨v, r, h1, h2, e⟩ => ⟨v, r, h1.kp, PsIs.kp h2, e⟩

theorem TV.Is.kp {t : TV A} {v : Value} (h : t.Is ⟨pl, kq, kn, gs⟩ v) : t.Is ⟨pl, kq', kn, gs⟩ v := by
  cases t with
  | val g l => exact VIs.kp h
  | tup l => obtain ⟨vs, h1, h2⟩ := h; exact ⟨vs, h1.kp, h2⟩
  | any => trivial

theorem TsIs.kp : ∀ {l : List (TV A)} {vs : List Value}, TsIs ⟨pl, kq, kn, gs⟩ l vs → TsIs ⟨pl, kq', kn, gs⟩ l vs
  | [], _, h => h
  | _ :: _, _, ⟨v, r, h1, h2, e⟩ => ⟨v, r, h1.kp, TsIs.kp h2, e⟩

theorem Defs.drop {ok : Nat → Prop} {D : Nat} : ∀ {ds : List Deferred}, Defs ok ⟨pl, kq, kn, gs⟩ ds → (∀ d ∈ ds, d ≠ { target := .collected D, args := #[] }) → Defs ok ⟨pl, fun k => kq k ∧ k ≠ D, kn, gs⟩ ds
  | [], _, _ => trivial
  | d :: ds, ⟨⟨D', h1, h2, h3, h4⟩, h5⟩, hne => by
    refine ⟨⟨D', h1, ⟨h2, fun e => ?_⟩, h3, h4⟩, Defs.drop h5 (fun d' hd => hne d' (by simp [hd]))⟩
    subst e
    exact hne d (by simp) h1
end

theorem VecAt.kp {P : Program} {own : Nat → Prop} {pl : Nat → Option Nat} {kq kq' : Nat → Prop} {kn : Addr → Value → Prop} {gs : Nat → Nat → Option (Option Nat × Nat)} {W : World} {i v n : Nat} {l : List (SV A)} {ty : TypeId} (h : VecAt P own ⟨pl, kq, kn, gs⟩ W i v n l ty) : VecAt P own ⟨pl, kq', kn, gs⟩ W i v n l ty := by
  refine ⟨h.free, h.last, ?_, h.nil⟩
  obtain ⟨bo, cap, vs, sz, h1, h2, h3, h4⟩ := h.lies
  exact ⟨bo, cap, vs, sz, h1, h2, h3.kp, h4⟩

/-- The put-off calls of a loop are taken over. -/
theorem MRel.take {c : Cfg A} {X : Nat → Prop} {W0 W : World} {β : Adr} {m : Mem A} (h : MRel c X W0 β m W) {D : Nat} (hk : β.kp D) :
    MRel c X W0 ⟨β.pl, fun k => β.kp k ∧ k ≠ D, β.kn, β.gs⟩ m (W.putObj D (.deferred none)) := by
  obtain ⟨hW, hD⟩ := h.nc D hk
  have oth : ∀ k, k ≠ D → (W.putObj D (.deferred none)).heap[k]? = W.heap[k]? := fun k hk => World.putObj_heap_other hk
  have cells : ∀ {k : Nat} {cs t fz}, W.heap[k]? = some (.cells cs t fz) → (W.putObj D (.deferred none)).heap[k]? = W.heap[k]? := fun {k cs t fz} hck => oth k (fun e => by subst e; rw [hck] at hW; cases hW)
  refine ⟨fun i blk hi hnv => ?_, h.inj, fun i b hi => by rw [World.putObj_size]; exact h.dom i b hi, ?_, h.glob, h.old, fun k hk' => ?_, fun a v hkn => ?_, fun i blk v n l hi hv => ?_, h.sep⟩
  rotate_left 3
  · obtain ⟨k1, k2, k3⟩ := h.kn a v hkn
    obtain ⟨cs, t, fz, k4⟩ := cell?_heap k1
    exact ⟨cell?_same k1 (cells k4), k2, k3⟩
  · have g := (h.vec i blk v n l hi hv).kept (own' := fun b => W0.heap.size ≤ b ∨ X b) (W' := W.putObj D (.deferred none)) (fun _ _ _ h => h) (fun b cap hb => by
      obtain ⟨cs, t, k4, _⟩ := vecIn.block h ⟨blk, v, n, l, cap, hi, hv, hb⟩
      exact cells k4)
    exact g.kp
  · obtain ⟨b, vs, fz, h1, h2, h3, h4⟩ := h.mem i blk hi hnv
    refine ⟨b, vs, fz, h1, h2.kp, ?_, h4⟩
    rw [oth b (fun e => by subst e; rw [h3] at hW; cases hW)]
    exact h3
  · refine ⟨h.ext.os, h.ext.tape, h.ext.output, by rw [World.putObj_size]; exact h.ext.size, fun k hk' hx => ?_⟩
    rw [oth k (fun e => by subst e; rcases hD with hD | hD; (· omega); (· exact hx hD))]
    exact h.ext.block k hk' hx
  · rw [oth k hk'.2]
    exact h.nc k hk'.1

theorem YAll.kp {X : Nat → Prop} {W0 : World} {pl : Nat → Option Nat} {kq kq' : Nat → Prop} {kn : Addr → Value → Prop} {gs : Nat → Nat → Option (Option Nat × Nat)} {W : World} : ∀ {ss : List (Ys A)} {es : Pds}, YAll X W0 ⟨pl, kq, kn, gs⟩ ss es W → YAll X W0 ⟨pl, kq', kn, gs⟩ ss es W
  | [], [], _ => trivial
  | _ :: _, _ :: _, ⟨⟨l, rec, h1, h2, h3, h4, h5, h6, h7, h8⟩, k2, k3⟩ => ⟨⟨l, rec, h1, h2, h3, h4, h5, h6, h7.kp, h8⟩, k2, YAll.kp k3⟩
  | [], _ :: _, h => h.elim
  | _ :: _, [], h => h.elim

/-- A frame leaves: what its loops over functions have put off is nothing. -/
theorem leaves_run {c : Cfg A} {X : Nat → Prop} {W0 : World} {fn : Func} {l : List (Bool × List (SV A))} {st : St A} {tmps : Array Value} {R : Ending → World → Prop} (h : resV c st fn.results.toList = some l) :
    ∀ (ds : List Deferred) (β : Adr) (W : World), Rel c X W0 β st { tmps := tmps, defers := ds } W → (∀ β' v W', β'.pl = β.pl ∧ β'.kn = β.kn ∧ β'.gs = β.gs → (packV l).Is β' v → MRel c X W0 β' st.m W' → YAll X W0 β' c.ys st.pd W' → R (.returned v) W') →
      LeavesInM Fence.wide 100 c.P fn tmps R ds .returning W
  | [], β, W, hr, hR => by
    obtain ⟨v, k1, k2⟩ := results_run hr h
    exact ⟨v, k1, hR β v W ⟨rfl, rfl, rfl⟩ k2 hr.m hr.y⟩
  | d :: ds, β, W, hr, hR => by
    obtain ⟨⟨D, hd, hk, hD, hne⟩, hds⟩ := hr.d
    obtain ⟨hW, _⟩ := hr.m.nc D hk
    refine ⟨by simp, .inl ⟨D, W.putObj D (.deferred none), by rw [hd], run_takeDeferred hW, ?_⟩⟩
    refine leaves_run h ds ⟨β.pl, fun k => β.kp k ∧ k ≠ D, β.kn, β.gs⟩ _ ⟨⟨hr.t.tmps.kp⟩, hr.m.take hk, hr.top, Defs.drop hds (fun d' hd' e => hne d' hd' (e.trans hd.symm)), ?_⟩ hR
    refine (hr.y.kept' (Adr.le_refl β) (fun s hs k r hk' hr' => ?_)).kp
    rw [World.putObj_heap_other]
    · exact hr'
    · rintro rfl
      rw [hW] at hr'
      cases hr'

/-- What a run on shadows says of a call. -/
theorem runP_sound {c : Cfg A} (hc : CfgOK c) {fuel : Nat} {f : FuncId} {fn : Func} (hf : c.P.funcs[f]? = some fn) (hl : ∀ body, fn.body = some body → LoopsOK c body) {args : List (TV A)} {m m' : Mem A} {pd pd' : Pds} {res : TV A} {vc : List Prop}
    (h : runP c fuel fn args m pd = some (res, m', pd', vc)) (hvc : ∀ p ∈ vc, p) {X : Nat → Prop} {W0 W : World} {β : Adr} {vs : List Value} (hm : MRel c X W0 β m W) (ht : Top β m) (hy : YAll X W0 β c.ys pd W) (ha : TsIs β args vs) :
    Calls c.P f vs.toArray W (fun e W' => ∃ v, e = .returned v ∧ ∃ β', Adr.le β β' ∧ res.Is β' v ∧ MRel c X W0 β' m' W' ∧ Top β' m' ∧ YAll X W0 β' c.ys pd' W' ∧ NX c β W W') := by
  -- as a run of its own: its start is W; what it may write is what the caller's shadows own
  obtain ⟨β0, hβ0⟩ : ∃ β0 : Adr, β0 = ⟨β.pl, fun _ => False, β.kn, β.gs⟩ := ⟨_, rfl⟩
  have hM0 : MRel c X W0 β0 m W := by
    rw [hβ0]
    exact ⟨fun i blk hi hnv => by obtain ⟨b, us, fz, h1, h2, h3, h4⟩ := hm.mem i blk hi hnv; exact ⟨b, us, fz, h1, h2.kp, h3, h4⟩, hm.inj, hm.dom, hm.ext, hm.glob, hm.old, fun k hk => hk.elim, hm.kn, fun i blk v n l hi hv => (hm.vec i blk v n l hi hv).kp, hm.sep⟩
  have hT0 : Top β0 m := by rw [hβ0]; exact ht
  have hY0 : YAll X W0 β0 c.ys pd W := by rw [hβ0]; exact hy.kp
  have hA0 : TsIs β0 args vs := by rw [hβ0]; exact ha.kp
  have hkp0 : ∀ k, ¬ β0.kp k := by rw [hβ0]; exact fun _ h => h
  have hpl0 : ∀ i, β0 i = β i := by rw [hβ0]; exact fun _ => rfl
  -- a state to be rebased
  have R0 : ∀ (tmps : Array Value) (st : St A), st.m = m → st.pd = pd → TsIs β0 st.t tmps.toList → Rel c X W0 β0 st { tmps := tmps, defers := [] } W :=
    fun tmps st h1 h2 h3 => ⟨⟨h3⟩, by rw [h1]; exact hM0, by rw [h1]; exact hT0, trivial, by rw [h2]; exact hY0⟩
  unfold runP at h
  split at h
  · rename_i body hb
    refine (callsIn_wide (n := 100)).1 (callsIn_of_wp_marks (F := Fence.wide) hf hb trivial ?_)
    have key : ∀ (e : Ex) (st : St A) (l : List (Bool × List (SV A))), (∀ id, e ≠ .exit id) → exec c fuel body ⟨args ++ List.replicate (fn.ntmps - args.length) undefT, m, 0, [], pd⟩ = some (e, st) → resV c st fn.results.toList = some l →
        res = packV l → m' = st.m → pd' = st.pd → vc = st.vc →
        body.wpIn Fence.wide 100 c.P (bodyPostM Fence.wide 100 c.P fn fun e W' => ∃ v, e = .returned v ∧ ∃ β', Adr.le β β' ∧ res.Is β' v ∧ MRel c X W0 β' m' W' ∧ Top β' m' ∧ YAll X W0 β' c.ys pd' W' ∧ NX c β W W') { tmps := vs.toArray ++ Array.replicate (fn.ntmps - vs.toArray.size) undef, defers := [] } W := by
      intro e st l hne hex hres h1 h2 h4 h3
      subst h1 h2 h3 h4
      have hA : TsIs β0 (args ++ List.replicate (fn.ntmps - args.length) undefT) (vs.toArray ++ Array.replicate (fn.ntmps - vs.toArray.size) undef).toList := by
        have := hA0.append (TsIs.undefs (A := A) β0 (fn.ntmps - args.length))
        simpa [ha.len] using this
      have R0' := R0 _ ⟨args ++ List.replicate (fn.ntmps - args.length) undefT, m, 0, [], pd⟩ rfl rfl hA
      refine exec_sound hc body (hl body hb) none 100 (own c β0 m) W _ _ e st β0 _ W (RndOK.none _ _) hex hvc R0'.rebase (fun β' a' W' hle hr => ?_)
      obtain ⟨tmps, ds⟩ := a'
      have post := leaves_run (R := fun e W' => ∃ v, e = .returned v ∧ ∃ β', Adr.le β β' ∧ (packV l).Is β' v ∧ MRel c X W0 β' st.m W' ∧ Top β' st.m ∧ YAll X W0 β' c.ys st.pd W' ∧ NX c β W W') hres ds β' W' hr (fun β'' v W'' hpl hv hm'' hy'' => by
        -- back: what the caller's frame has put off lies as it lay
        have hle0 : Adr.le β0 β'' := ⟨fun i b hi => by show β''.pl i = some b; rw [hpl.1]; exact hle.pl i b hi, fun k hk => (hkp0 k hk).elim, fun a v h => by rw [hpl.2.1]; exact hle.kn a v h, fun i v x h => by rw [hpl.2.2]; exact hle.gs i v x h⟩
        have hT'' : Top β'' st.m := fun i hi => ⟨by show β''.pl i = none; rw [hpl.1]; exact (hr.top i hi).1, fun v => by rw [hpl.2.2]; exact (hr.top i hi).2 v⟩
        have R1 : Rel c (own c β0 m) W β'' ⟨[], st.m, 0, [], st.pd⟩ { tmps := #[], defers := [] } W'' := ⟨⟨rfl⟩, hm'', hT'', trivial, hy''⟩
        obtain ⟨R2, nx⟩ := Rel.unbase (st := ⟨args ++ List.replicate (fn.ntmps - args.length) undefT, m, 0, [], pd⟩) R0' R1 hle0
        have hnx : NX c β W W'' := fun k o hk ho hs => nx k o hk ho (fun s hs' => by rw [hpl0]; exact hs s hs')
        refine ⟨v, rfl, ⟨β''.pl, β.kp, β''.kn, β''.gs⟩, ⟨fun i b hi => ?_, fun k hk => hk, fun a v hk => hle0.kn a v (by rw [hβ0]; exact hk), fun i v x hx => hle0.gs i v x (by rw [hβ0]; exact hx)⟩, TV.Is.kp hv, ?_, fun i hi => ?_, (by exact R2.y : YAll X W0 β'' c.ys st.pd W'').kp, hnx⟩
        · show β''.pl i = some b
          exact hle0.pl i b (by rw [hpl0]; exact hi)
        · have hm2 := R2.m
          refine ⟨fun i blk hi hnv => ?_, hm2.inj, hm2.dom, hm2.ext, hm2.glob, hm2.old, fun k hk => ?_, hm2.kn, fun i blk v n l hi hv => (hm2.vec i blk v n l hi hv).kp, hm2.sep⟩
          · obtain ⟨b, us, fz, h1, h2, h3, h4⟩ := hm2.mem i blk hi hnv
            exact ⟨b, us, fz, h1, h2.kp, h3, h4⟩
          · obtain ⟨h1, h2⟩ := hm.nc k hk
            refine ⟨hnx k _ h1 rfl (fun s hs e => ?_), h2⟩
            obtain ⟨_, l', _, k1, k2, _⟩ := hy.has s hs
            have : l' = k := Option.some.inj (k1.symm.trans e)
            subst this
            rw [h1] at k2
            cases k2
        · exact hT'' i hi)
      cases e with
      | normal => exact post
      | ret => exact post
      | exit id => exact absurd rfl (hne id)
    split at h
    · cases h
    · rename_i e st hne hex
      split at h
      · rename_i l hl'
        simp at h
        obtain ⟨h1, h2, h3, h4⟩ := h
        refine key e st l (fun id he => ?_) hex hl' h1.symm h2.symm h3.symm h4.symm
        subst he
        exact hne id rfl
      · cases h
    · cases h
  · cases h

/-- The same where no loop over a function is under way. -/
theorem run_sound {c : Cfg A} (hc : CfgOK c) (hys : c.ys = []) {fuel : Nat} {f : FuncId} {fn : Func} (hf : c.P.funcs[f]? = some fn) (hl : ∀ body, fn.body = some body → LoopsOK c body) {args : List (TV A)} {m m' : Mem A} {res : TV A} {vc : List Prop}
    (h : run c fuel fn args m = some (res, m', vc)) (hvc : ∀ p ∈ vc, p) {X : Nat → Prop} {W0 W : World} {β : Adr} {vs : List Value} (hm : MRel c X W0 β m W) (ht : Top β m) (ha : TsIs β args vs) :
    Calls c.P f vs.toArray W (fun e W' => ∃ v, e = .returned v ∧ ∃ β', Adr.le β β' ∧ res.Is β' v ∧ MRel c X W0 β' m' W' ∧ Top β' m' ∧ NC W W') := by
  unfold run at h
  split at h
  · rename_i v m2 pd' vc2 hr
    simp at h
    obtain ⟨rfl, rfl, rfl⟩ := h
    refine (runP_sound hc hf hl hr hvc hm ht (by rw [hys]; trivial) ha).mono ?_
    rintro e W' ⟨v, rfl, β', k1, k2, k3, k4, _, k6⟩
    exact ⟨v, rfl, β', k1, k2, k3, k4, fun k o hk ho => k6 k o hk ho (fun s hs => by rw [hys] at hs; cases hs)⟩
  · cases h
end
end Go.Sh
