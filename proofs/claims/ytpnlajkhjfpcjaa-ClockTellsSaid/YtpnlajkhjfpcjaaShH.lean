/- Code on shadows: the runner of a function's body, and what a run says of a call. -/
import Derived.Test.YtpnlajkhjfpcjaaShG
import Derived.Scope
namespace Go.Sh
open Go.RowKit

/-- How a piece of code is left. -/
inductive Ex where
  | normal
  | ret
  | exit (id : Nat)

def Ex.toExit : Ex → Exit
  | .normal => .normal
  | .ret => .ret
  | .exit id => .exit id

theorem stepR_scope {P : Program} {b : Frame} {a : Act} {k : List Item} {cs : List Frame} {w : World} {c : Code} :
    step P (lone (b.atR a (.code (.scope c) :: k)) cs w) = .next (lone (b.atR a (.code c :: .inScope c :: k)) cs w) :=
  step_lone_go (by simp [stepG, stepG.exec, Frame.atR])

theorem stepR_inScope {P : Program} {b : Frame} {a : Act} {k : List Item} {cs : List Frame} {w : World} {c : Code} :
    step P (lone (b.atR a (.inScope c :: k)) cs w) = .next (lone (b.atR a k) cs w) :=
  step_lone_go (by simp [stepG, stepG.exec, Frame.atR])

/-- A scope through which the run goes without a jump. -/
theorem wpIn_scope {F : Fence} {n : Nat} {P : Program} {c : Code} {Q : Exit → Act → World → Prop} {a : Act} {w : World} (h : c.wpIn F n P (Exit.noGoto Q) a w) : (Code.scope c).wpIn F n P Q a w := by
  intro b k cs hro hb hr
  have h0 : (lone (b.atR a (.code (.scope c) :: k)) cs w).fenced P F := fenced_calm hb hr rfl
  obtain ⟨e, a₁, w₁, hq, harr⟩ := h b (.inScope c :: k) cs hro hb hr
  cases e with
  | normal => exact ⟨.normal, a₁, w₁, hq, .head h0 stepR_scope (StepsIn.trans harr (.one (fenced_calm hb hr rfl) stepR_inScope))⟩
  | exit id =>
    have hx : exitTo id (.inScope c :: k) = exitTo id k := by simp [exitTo]
    exact ⟨.exit id, a₁, w₁, hq, fun k' hk => .head h0 stepR_scope (harr.1 k' (by rw [hx]; exact hk)),
      fun hr' hk => let ⟨k₁, h1, h2⟩ := harr.2 hr' (by rw [hx]; exact hk); ⟨k₁, h1, .head h0 stepR_scope h2⟩⟩
  | goto l => exact hq.elim
  | ret => exact ⟨_, a₁, w₁, hq, .of_steps (.one h0 stepR_scope) harr⟩
  | panic ch => exact ⟨_, a₁, w₁, hq, .of_steps (.one h0 stepR_scope) harr⟩
  | outgrown => exact ⟨_, a₁, w₁, hq, .of_steps (.one h0 stepR_scope) harr⟩

section
variable {A : Type} [Atom A]

/-- A loop, round by round. -/
def rounds (f : St A → Option (Ex × St A)) : Nat → St A → Option (Ex × St A)
  | 0, _ => none
  | k + 1, st =>
    match f { st with rd := st.rd + 1 } with
    | some (.normal, st') => rounds f k st'
    | r => r

def exec (c : Cfg A) (fuel : Nat) : Code → St A → Option (Ex × St A)
  | .skip, st => some (.normal, st)
  | .label _, st => some (.normal, st)
  | .region _ ops draw, st =>
    match (if draw then execDraw c ops.toList st else execOps c ops.toList ops.toList st) with
    | some st' => some (.normal, st')
    | none => none
  | .seq x y, st =>
    match exec c fuel x st with
    | some (.normal, st') => exec c fuel y st'
    | r => r
  | .cond q x y, st =>
    match evO c st q with
    | some tv =>
      match boolOf tv with
      | some true => exec c fuel x st
      | some false => exec c fuel y st
      | none => none
    | none => none
  | .block id x, st =>
    match exec c fuel x st with
    | some (.exit id', st') => if id' = id then some (.normal, st') else some (.exit id', st')
    | r => r
  | .loop x, st => rounds (exec c fuel x) fuel st
  | .scope x, st => exec c fuel x st
  | .exit id, st => some (.exit id, st)
  | .ret, st => some (.ret, st)
  | _, _ => none

omit [Atom A] in
theorem rounds_vc {f : St A → Option (Ex × St A)} (hf : ∀ st e st', f st = some (e, st') → ∀ p ∈ st.vc, p ∈ st'.vc) : ∀ {k : Nat} {st : St A} {e : Ex} {st' : St A}, rounds f k st = some (e, st') → ∀ p ∈ st.vc, p ∈ st'.vc
  | 0, _, _, _, h => by simp [rounds] at h
  | k + 1, st, e, st', h => by
    simp only [rounds] at h
    split at h
    · rename_i st1 h1
      intro p hp
      exact rounds_vc hf h p (hf _ _ _ h1 p hp)
    · exact hf { st with rd := st.rd + 1 } e st' h

theorem exec_vc {c : Cfg A} {fuel : Nat} : ∀ (x : Code) (st : St A) (e : Ex) (st' : St A), exec c fuel x st = some (e, st') → ∀ p ∈ st.vc, p ∈ st'.vc := by
  intro x
  induction x with
  | skip => intro st e st' h; simp [exec] at h; obtain ⟨_, rfl⟩ := h; exact fun _ h => h
  | label l => intro st e st' h; simp [exec] at h; obtain ⟨_, rfl⟩ := h; exact fun _ h => h
  | region id ops draw =>
    intro st e st' h
    simp only [exec] at h
    split at h
    · rename_i st1 h1
      simp at h
      obtain ⟨_, rfl⟩ := h
      cases draw
      · simp only [Bool.false_eq_true, if_false] at h1; exact execOps_vc h1
      · simp only [if_true] at h1; exact execDraw_vc h1
    · cases h
  | seq x y ihx ihy =>
    intro st e st' h
    simp only [exec] at h
    split at h
    · rename_i st1 h1
      intro p hp
      exact ihy _ _ _ h p (ihx _ _ _ h1 p hp)
    · exact ihx _ _ _ h
  | cond q x y ihx ihy =>
    intro st e st' h
    simp only [exec] at h
    split at h
    · split at h
      · exact ihx _ _ _ h
      · exact ihy _ _ _ h
      · cases h
    · cases h
  | block id x ih =>
    intro st e st' h
    simp only [exec] at h
    split at h
    · rename_i id' st1 h1
      split at h <;> (simp at h; obtain ⟨_, rfl⟩ := h; exact ih _ _ _ h1)
    · exact ih _ _ _ h
  | loop x ih =>
    intro st e st' h
    simp only [exec] at h
    exact rounds_vc ih h
  | scope x ih =>
    intro st e st' h
    simp only [exec] at h
    exact ih _ _ _ h
  | exit id => intro st e st' h; simp [exec] at h; obtain ⟨_, rfl⟩ := h; exact fun _ h => h
  | ret => intro st e st' h; simp [exec] at h; obtain ⟨_, rfl⟩ := h; exact fun _ h => h
  | _ => intro st e st' h; simp [exec] at h

/-- A piece of code, run on shadows, says what it does. -/
def Sound (c : Cfg A) (r : Option Nat) (n : Nat) (x : Code) (f : St A → Option (Ex × St A)) : Prop :=
  ∀ (X : Nat → Prop) (W0 : World) (Q : Exit → Act → World → Prop) (st : St A) (e : Ex) (st' : St A) (β : Adr) (a : Act) (W : World), f st = some (e, st') → (∀ p ∈ st'.vc, p) → Rel c X W0 β st a W →
    (∀ β' a' W', Adr.le β β' → Rel c X W0 β' st' a' W' → Q e.toExit a' W') → x.wpIn (Fr r) n c.P Q a W

theorem rounds_sound {c : Cfg A} {r : Option Nat} {n : Nat} {x : Code} {f : St A → Option (Ex × St A)} (hf : Sound c r n x f) (hv : ∀ st e st', f st = some (e, st') → ∀ p ∈ st.vc, p ∈ st'.vc)
    {X : Nat → Prop} {W0 : World} {Q : Exit → Act → World → Prop} : ∀ (k : Nat) (st : St A) (e : Ex) (st' : St A) (β : Adr) (a : Act) (W : World), rounds f k st = some (e, st') → (∀ p ∈ st'.vc, p) → Rel c X W0 β st a W →
      (∀ β' a' W', Adr.le β β' → Rel c X W0 β' st' a' W' → Q e.toExit a' W') → Code.roundsIn (Fr r) n c.P x Q k a W
  | 0, _, _, _, _, _, _, h, _, _, _ => by simp [rounds] at h
  | k + 1, st, e, st', β, a, W, h, hvc, hr, hQ => by
    simp only [rounds] at h
    rw [roundsIn_succ]
    split at h
    · rename_i st1 h1
      have hv1 : ∀ p ∈ st1.vc, p := fun p hp => hvc p (rounds_vc hv h p hp)
      refine hf X W0 _ _ .normal st1 β a W h1 hv1 ⟨hr.t, hr.m, hr.top⟩ (fun β' a' W' hle hr' => ?_)
      exact rounds_sound hf hv k st1 e st' β' a' W' h hvc hr' (fun β'' a'' W'' hle' hr'' => hQ β'' a'' W'' (Adr.le_trans hle hle') hr'')
    · rename_i hne
      refine hf X W0 _ _ e st' β a W h hvc ⟨hr.t, hr.m, hr.top⟩ (fun β' a' W' hle hr' => ?_)
      have := hQ β' a' W' hle hr'
      cases e with
      | normal => exact absurd h (hne st')
      | ret => exact this
      | exit id => exact this

theorem exec_sound {c : Cfg A} (hc : CallsOK c) {fuel : Nat} {r : Option Nat} {n : Nat} : ∀ (x : Code), Sound c r n x (exec c fuel x) := by
  intro x
  induction x with
  | skip =>
    intro X W0 Q st e st' β a W h hvc hr hQ
    simp [exec] at h
    obtain ⟨rfl, rfl⟩ := h
    exact wpIn_skip (hQ β a W (Adr.le_refl β) hr)
  | label l =>
    intro X W0 Q st e st' β a W h hvc hr hQ
    simp [exec] at h
    obtain ⟨rfl, rfl⟩ := h
    exact wpIn_label (hQ β a W (Adr.le_refl β) hr)
  | region id ops draw =>
    intro X W0 Q st e st' β a W h hvc hr hQ
    simp only [exec] at h
    split at h
    · rename_i st1 h1
      simp at h
      obtain ⟨rfl, rfl⟩ := h
      cases draw
      · simp only [Bool.false_eq_true, if_false] at h1
        exact wpIn_region_list (execOps_sound hc h1 hvc hr hQ)
      · simp only [if_true] at h1
        exact execDraw_sound hc h1 hvc hr hQ
    · cases h
  | seq x y ihx ihy =>
    intro X W0 Q st e st' β a W h hvc hr hQ
    simp only [exec] at h
    refine wpIn_seq ?_
    split at h
    · rename_i st1 h1
      have hv1 : ∀ p ∈ st1.vc, p := fun p hp => hvc p (exec_vc y _ _ _ h p hp)
      refine ihx X W0 _ st .normal st1 β a W h1 hv1 hr (fun β' a' W' hle hr' => ?_)
      exact ihy X W0 Q st1 e st' β' a' W' h hvc hr' (fun β'' a'' W'' hle' hr'' => hQ β'' a'' W'' (Adr.le_trans hle hle') hr'')
    · rename_i hne
      refine ihx X W0 _ st e st' β a W h hvc hr (fun β' a' W' hle hr' => ?_)
      have := hQ β' a' W' hle hr'
      cases e with
      | normal => exact absurd h (hne st')
      | ret => exact this
      | exit id => exact this
  | cond q x y ihx ihy =>
    intro X W0 Q st e st' β a W h hvc hr hQ
    simp only [exec] at h
    split at h
    · rename_i tv hq
      have hi := evO_is hr.t hr.m hq
      split at h
      · rename_i hb
        exact wpIn_cond_true (boolOf_is hi hb) (ihx X W0 Q _ e st' β a W h hvc hr hQ)
      · rename_i hb
        exact wpIn_cond_false (boolOf_is hi hb) (ihy X W0 Q _ e st' β a W h hvc hr hQ)
      · cases h
    · cases h
  | block id x ih =>
    intro X W0 Q st e st' β a W h hvc hr hQ
    simp only [exec] at h
    refine wpIn_block ?_
    split at h
    · rename_i id' st1 h1
      split at h
      · rename_i hid
        simp at h
        obtain ⟨rfl, rfl⟩ := h
        refine ih X W0 _ st (.exit id') st1 β a W h1 hvc hr (fun β' a' W' hle hr' => ?_)
        simp only [Ex.toExit, Exit.inBlock, hid, if_true]
        exact hQ β' a' W' hle hr'
      · rename_i hid
        simp at h
        obtain ⟨rfl, rfl⟩ := h
        refine ih X W0 _ st (.exit id') st1 β a W h1 hvc hr (fun β' a' W' hle hr' => ?_)
        simp only [Ex.toExit, Exit.inBlock, hid, if_false]
        exact hQ β' a' W' hle hr'
    · rename_i hne
      refine ih X W0 _ st e st' β a W h hvc hr (fun β' a' W' hle hr' => ?_)
      have := hQ β' a' W' hle hr'
      cases e with
      | normal => exact this
      | ret => exact this
      | exit id' => exact absurd h (hne id' st')
  | loop x ih =>
    intro X W0 Q st e st' β a W h hvc hr hQ
    simp only [exec] at h
    exact wpIn_loop_rounds fuel (rounds_sound ih (exec_vc x) fuel st e st' β a W h hvc hr hQ)
  | scope x ih =>
    intro X W0 Q st e st' β a W h hvc hr hQ
    simp only [exec] at h
    refine wpIn_scope (ih X W0 _ st e st' β a W h hvc hr (fun β' a' W' hle hr' => ?_))
    have := hQ β' a' W' hle hr'
    cases e <;> exact this
  | exit id =>
    intro X W0 Q st e st' β a W h hvc hr hQ
    simp [exec] at h
    obtain ⟨rfl, rfl⟩ := h
    exact wpIn_exit (hQ β a W (Adr.le_refl β) hr)
  | ret =>
    intro X W0 Q st e st' β a W h hvc hr hQ
    simp [exec] at h
    obtain ⟨rfl, rfl⟩ := h
    exact wpIn_ret (hQ β a W (Adr.le_refl β) hr)
  | _ =>
    intro X W0 Q st e st' β a W h hvc hr hQ
    simp [exec] at h

/-! ### A function -/

def resV (c : Cfg A) (st : St A) : List ResultVar → Option (List (Bool × List (SV A)))
  | [] => some []
  | .tmp t :: r =>
    match nth st.t t, resV c st r with
    | some (.val g l), some rest => some ((g, l) :: rest)
    | _, _ => none
  | .cell p ty :: r =>
    match nth st.t p, resV c st r with
    | some tv, some rest =>
      match addrOf tv with
      | some (i, off) =>
        match nth st.m i with
        | some (some blk) =>
          match partV c.P ty blk.cells off with
          | some (.val g l) => some ((g, l) :: rest)
          | _ => none
        | _ => none
      | none => none
    | _, _ => none

def packV : List (Bool × List (SV A)) → TV A
  | [(g, l)] => .val g l
  | l => .tup l

/-- A call of a function with a body: its result, the memory behind it, what must hold. -/
def run (c : Cfg A) (fuel : Nat) (fn : Func) (args : List (TV A)) (m : Mem A) : Option (TV A × Mem A × List Prop) :=
  match fn.body with
  | some body =>
    match exec c fuel body ⟨args ++ List.replicate (fn.ntmps - args.length) undefT, m, 0, []⟩ with
    | some (.exit _, _) => none
    | some (_, st) =>
      match resV c st fn.results.toList with
      | some l => some (packV l, st.m, st.vc)
      | none => none
    | none => none
  | none => none

theorem TsIs.append {β : Adr} : ∀ {l r : List (TV A)} {x y}, TsIs β l x → TsIs β r y → TsIs β (l ++ r) (x ++ y)
  | [], _, _, _, e, h => by subst e; exact h
  | _ :: _, _, _, _, ⟨v, r, h1, h2, e⟩, h => by subst e; exact ⟨v, _, h1, TsIs.append h2 h, rfl⟩

theorem TsIs.undefs (β : Adr) : ∀ n : Nat, TsIs β (List.replicate n (undefT : TV A)) (List.replicate n undef)
  | 0 => rfl
  | n + 1 => ⟨undef, _, undefT_is β, TsIs.undefs β n, rfl⟩

theorem TsIs.len {β : Adr} : ∀ {l : List (TV A)} {vs}, TsIs β l vs → vs.length = l.length
  | [], _, e => by subst e; rfl
  | _ :: _, _, ⟨v, r, _, h2, e⟩ => by subst e; simp [TsIs.len h2]

/-- How a result is read. -/
def resSem (a : Act) : ResultVar → Sem Value
  | .tmp t => pure (a.tmps.getD t undef)
  | .cell p t => do loadVar t (← asAddr (a.tmps.getD p undef))

theorem resV_run {c : Cfg A} {X : Nat → Prop} {W0 W : World} {β : Adr} {st : St A} {a : Act} (hr : Rel c X W0 β st a W) : ∀ {rs : List ResultVar} {l : List (Bool × List (SV A))}, resV c st rs = some l →
    ∃ vs, (rs.mapM (resSem a)).run c.P W = .ok vs W ∧ PsIs β l vs
  | [], l, h => by simp [resV] at h; subst h; exact ⟨[], by simp, rfl⟩
  | .tmp t :: r, l, h => by
    simp only [resV] at h
    split at h
    · rename_i g cs rest h1 h2
      simp at h; subst h
      obtain ⟨vs, e1, e2⟩ := resV_run hr h2
      obtain ⟨v, e3, e4⟩ := hr.t.tmps.nth h1
      refine ⟨v :: vs, ?_, v, vs, e4, e2, rfl⟩
      have e5 : a.tmps.getD t undef = v := by
        simp at e3
        rw [Array.getD_eq_getD_getElem?, e3]; rfl
      have e6 : (resSem a (.tmp t)).run c.P W = .ok v W := by simp [resSem, e5]
      simp only [List.mapM_cons, Sem.run_bind, Sem.run_pure, Result.andThen_ok, e6]
      rw [e1]; rfl
    · cases h
  | .cell p ty :: r, l, h => by
    simp only [resV] at h
    split at h
    · rename_i tv rest h1 h2
      split at h
      · rename_i i off h3
        split at h
        · rename_i blk h4
          split at h
          · rename_i g cs h5
            simp at h; subst h
            obtain ⟨vs, e1, e2⟩ := resV_run hr h2
            obtain ⟨v, e3, e4⟩ := hr.t.tmps.nth h1
            have e5 : a.tmps.getD p undef = v := by
              simp at e3
              rw [Array.getD_eq_getD_getElem?, e3]; rfl
            obtain ⟨b, hb, rfl⟩ := addrOf_is e4 h3
            obtain ⟨b', us, fz, g1, g2, g3, _⟩ := hr.m.mem i blk h4
            have : b' = b := by rw [hb] at g1; exact (Option.some.inj g1).symm
            subst this
            obtain ⟨u, k1, k2⟩ := run_loadPart (P := c.P) (w := W) h5 g2 g3
            refine ⟨u :: vs, ?_, u, vs, k2, e2, rfl⟩
            have e6 : (resSem a (.cell p ty)).run c.P W = .ok u W := by simp [resSem, e5, asAddr, k1]
            simp only [List.mapM_cons, Sem.run_bind, Sem.run_pure, Result.andThen_ok, e6]
            rw [e1]; rfl
          · cases h
        · cases h
      · cases h
    · cases h

theorem results_run {c : Cfg A} {X : Nat → Prop} {W0 W : World} {β : Adr} {st : St A} {a : Act} {fn : Func} {l : List (Bool × List (SV A))} (hr : Rel c X W0 β st a W) (h : resV c st fn.results.toList = some l) :
    ∃ v, (results fn a.tmps).run c.P W = .ok v W ∧ (packV l).Is β v := by
  obtain ⟨vs, e1, e2⟩ := resV_run hr h
  have e3 : (fn.results.mapM (resSem a)).run c.P W = .ok vs.toArray W := by
    rw [Array.mapM_eq_mapM_toList, Sem.run_map, e1]
    rfl
  have e4 : results fn a.tmps = (do
      let vs ← fn.results.mapM (resSem a)
      pure (if h : vs.size = 1 then vs[0] else .tuple vs)) := by
    unfold results
    have : (fun x => match x with | ResultVar.tmp t => (pure (a.tmps.getD t undef) : Sem Value) | .cell p t => do loadVar t (← asAddr (a.tmps.getD p undef))) = resSem a := by
      funext x; cases x <;> rfl
    rw [← this]
    rfl
  rw [e4, Sem.run_bind]
  refine ⟨if h : vs.toArray.size = 1 then vs.toArray[0] else .tuple vs.toArray, ?_, ?_⟩
  · rw [e3]
    rfl
  · match l, vs, e2 with
    | [], _, e => obtain rfl := e; exact ⟨[], rfl, rfl⟩
    | [(g, cs)], _, ⟨v, r, h1, h2, e⟩ =>
      obtain rfl : r = [] := h2
      subst e
      exact h1
    | x :: y :: l, _, ⟨v, r, h1, ⟨u, r', h2, h3, e'⟩, e⟩ =>
      subst e' e
      have : ¬ ((v :: u :: r').toArray.size = 1) := by simp
      rw [dif_neg this]
      exact ⟨_, ⟨v, _, h1, ⟨u, r', h2, h3, rfl⟩, rfl⟩, rfl⟩

/-- What a run on shadows says of a call. -/
theorem run_sound {c : Cfg A} (hc : CallsOK c) {fuel : Nat} {f : FuncId} {fn : Func} (hf : c.P.funcs[f]? = some fn) {args : List (TV A)} {m m' : Mem A} {res : TV A} {vc : List Prop}
    (h : run c fuel fn args m = some (res, m', vc)) (hvc : ∀ p ∈ vc, p) {X : Nat → Prop} {W0 W : World} {β : Adr} {vs : List Value} (hm : MRel c X W0 β m W) (ht : Top β m) (ha : TsIs β args vs) :
    Calls c.P f vs.toArray W (fun e W' => ∃ v, e = .returned v ∧ ∃ β', Adr.le β β' ∧ res.Is β' v ∧ MRel c X W0 β' m' W' ∧ Top β' m') := by
  unfold run at h
  split at h
  · rename_i body hb
    refine (callsIn_wide (n := 0)).1 (callsIn_of_wp (F := Fence.wide) hf hb trivial ?_)
    have key : ∀ (e : Ex) (st : St A) (l : List (Bool × List (SV A))), (∀ id, e ≠ .exit id) → exec c fuel body ⟨args ++ List.replicate (fn.ntmps - args.length) undefT, m, 0, []⟩ = some (e, st) → resV c st fn.results.toList = some l →
        res = packV l → m' = st.m → vc = st.vc →
        body.wpIn Fence.wide 0 c.P (bodyPost c.P fn fun e W' => ∃ v, e = .returned v ∧ ∃ β', Adr.le β β' ∧ res.Is β' v ∧ MRel c X W0 β' m' W' ∧ Top β' m') { tmps := vs.toArray ++ Array.replicate (fn.ntmps - vs.toArray.size) undef, defers := [] } W := by
      intro e st l hne hex hres h1 h2 h3
      subst h1 h2 h3
      refine exec_sound hc (r := none) (n := 0) body X W0 _ _ e st β _ W hex hvc ⟨⟨rfl, ?_⟩, hm, ht⟩ (fun β' a' W' hle hr => ?_)
      · have := ha.append (TsIs.undefs (A := A) β (fn.ntmps - args.length))
        simpa [ha.len] using this
      · obtain ⟨v, k1, k2⟩ := results_run hr hres
        have post : a'.defers = [] ∧ ∃ v, (results fn a'.tmps).run c.P W' = .ok v W' ∧ ∃ u, Ending.returned v = .returned u ∧ ∃ β'', Adr.le β β'' ∧ (packV l).Is β'' u ∧ MRel c X W0 β'' st.m W' ∧ Top β'' st.m :=
          ⟨hr.t.defers, v, k1, v, rfl, β', hle, k2, hr.m, hr.top⟩
        cases e with
        | normal => exact post
        | ret => exact post
        | exit id => exact absurd rfl (hne id)
    split at h
    · cases h
    · rename_i e st hne hex
      split at h
      · rename_i l hl
        simp at h
        obtain ⟨h1, h2, h3⟩ := h
        refine key e st l (fun id he => ?_) hex hl h1.symm h2.symm h3.symm
        subst he
        exact hne id rfl
      · cases h
    · cases h
  · cases h

end
end Go.Sh
